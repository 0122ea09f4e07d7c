/- Trees of questions: definitions. -/
import Derived.Test.YtmlnfoabpcccnaaGreatEvCd
import Derived.Test.YtmlnfoabpcccnaaGreatEvBi
set_option linter.all false
/- Trees of questions: definitions. -/
namespace Go.Ev.A
open Go.Proofs
/-- a number in a text: a digit, or what stands in a cell -/
inductive NumS where
  | lit (n : Nat)
  | u (k : Nat)
/-- an expression as it is written: productions with the spaces ahead of their items -/
inductive TT where
  | hole (k : Nat)
  | prod (i : Nat) (fl : List Bool) (v : Nat) (m : NumS) (sub : Nat → TT)
/-- a piece of a text: a byte, or the text in a cell -/
inductive Pc where
  | b (n : Nat)
  | u (k : Nat)
/-- what is known of a cell -/
inductive Ty where
  | at
  | num (x y : Nat)
  | dep
  | low
  | rng (n : Nat)
  | var
  | small
  | hole
  | done
  | txt (x y : Nat) (l : List Pc)
  | env
inductive Wk where
  | out (q : PV) (a m : Nat) (t : Option TT)
  | own (f a m : Nat) (args : List PV) (t : Wk)
  | nxt (a n : Nat) (t : Wk)
  | pick (f a n : Nat) (t : Nat → Wk)
  | of (x y : PV) (t : Nat → Wk)
  | op (o : BinOp) (ty : Nat) (x y : PV) (t : Wk)
  | cmp (o : BinOp) (ty : Nat) (x y : PV) (t0 t1 : Wk)
  | no (o : BinOp) (ty : Nat) (x y : PV) (t : Wk)
abbrev Ctx := List (Nat × Ty)
abbrev Cl := List (Nat × List PV × PV)
structure OpQ where
  o : BinOp
  ty : Nat
  x : PV
  y : PV
  a : PV
structure Lf where
  n : Nat
  Γ : Ctx
  cs : Cl
  os : List OpQ
  q : PV
  a : Nat
  m : Nat
  t : Option TT
/-- Maker's cells, and its source's -/
abbrev Kc (a m : Nat) : List PV := [.tup (.mp 67 :: [.unk 0, .unk a]), NL, I 7, Bo true, .unk m]
abbrev Sc (a : Nat) : List PV := [.unk 0, .unk a]
def ty : Ctx → Nat → Option Ty
  | [], _ => none
  | (j, t) :: r, k => match Nat.beq j k with
    | true => some t
    | false => ty r k
def tyP (Γ : Ctx) : PV → Option Ty
  | .unk k => ty Γ k
  | _ => none
def bytesP : PV → List Pc
  | .v (.string s) => s.data.toList.map fun c => .b c.toNat
  | _ => []
/-- the pieces of a text, and a bound of its length -/
def pcOf (Γ : Ctx) : PV → Option (Nat × Nat × List Pc)
  | .unk k => match ty Γ k with
    | some (.txt x y l) => some (x, y, l)
    | some .var => some (3, 0, [.u k])
    | some .small => some (2, 0, [.u k])
    | some .hole => some (0, 1, [.u k])
    | _ => none
  | .v (.string s) => some (s.data.toList.length, 0, s.data.toList.map fun c => .b c.toNat)
  | _ => none
def sortB (Γ : Ctx) : PV → Bool
  | .unk k => match ty Γ k with
    | some (.rng n) => Nat.ble n 8
    | _ => false
  | .v (.int .i64 (.ofNat n)) => Nat.ble n 7
  | _ => false
def nameB (Γ : Ctx) : List PV → Bool
  | [.unk k, s] => match ty Γ k with
    | some .var => sortB Γ s
    | _ => false
  | _ => false
/-- a list of variables with their sorts -/
def envB (Γ : Ctx) (hi : Nat) (op : Bool) : PV → Bool
  | .unk k => op && match ty Γ k with
    | some .env => true
    | _ => false
  | .sl es false => Nat.ble 4 es.length && (Nat.ble es.length hi && es.all (nameB Γ))
  | _ => false
def isLow (Γ : Ctx) (x : PV) : Bool := match tyP Γ x with
  | some .low => true
  | _ => false
def isDep (Γ : Ctx) (x : PV) : Bool := match tyP Γ x with
  | some .dep => true
  | _ => false
def dx : Nat → Nat
  | 67 => 0
  | 13 => 0
  | _ => 1
def dy : Nat → Nat
  | 13 => 1
  | 31 => 3
  | 33 => 3
  | 34 => 3
  | _ => 0
def resTy : Nat → Ty
  | 67 => .small
  | 32 => .var
  | 13 => .hole
  | _ => .done
/-- L: how many variables there are -/
def argsB (Γ : Ctx) (L f : Nat) (args : List PV) : Bool := match f, args with
  | 67, [] => true
  | 32, [] => true
  | 13, [s, d, e] => sortB Γ s && (isLow Γ d && envB Γ (L + 1) false e)
  | 29, [s, e] => sortB Γ s && envB Γ L true e
  | 31, [s, d, e] => sortB Γ s && (isDep Γ d && envB Γ L false e)
  | 33, [s, d, e] => sortB Γ s && (isDep Γ d && envB Γ L false e)
  | 34, [s, d, e] => sortB Γ s && (isDep Γ d && envB Γ L false e)
  | _, _ => false
def isAt (Γ : Ctx) (a : Nat) : Bool := match ty Γ a with
  | some .at => true
  | _ => false
def atomsT : List PV := [S [97], S [98], S [111, 107], S [101, 114, 114, 111, 114]]
def allN : Nat → (Nat → Bool) → Bool
  | 0, _ => true
  | n + 1, p => p n && allN n p
def uns (n : Nat) : Nat → List (List PV)
  | 0 => []
  | k + 1 => [.unk n] :: uns (n + 1) k
def uvars (Γ : Ctx) (n : Nat) : Nat → Ctx
  | 0 => Γ
  | k + 1 => uvars ((n, .var) :: Γ) (n + 1) k
def ofAns (n i : Nat) : PV := match i with
  | 0 => NL
  | i + 1 => .sl (uns n (i + 1)) false
def pickV (f i : Nat) : PV := match f with
  | 14 => I i
  | _ => atomsT.getD i NL
/-- an operation with an answer that is not looked into: its type -/
def opTy (Γ : Ctx) (o : BinOp) (x y : PV) : Option Ty := match o with
  | .add => match pcOf Γ x, pcOf Γ y with
    | some (x1, y1, l1), some (x2, y2, l2) => match Nat.ble (x1 + x2) 1000 && Nat.ble (y1 + y2) 10 with
      | true => some (.txt (x1 + x2) (y1 + y2) (l1 ++ l2))
      | false => none
    | _, _ => none
  | .sub => match isDep Γ x, y with
    | true, .v (.int .i64 (.ofNat 1)) => some .low
    | _, _ => none
  | _ => none
def rngB (Γ : Ctx) : PV → Bool
  | .unk k => match ty Γ k with
    | some (.rng _) => true
    | _ => false
  | .v (.int .i64 (.ofNat _)) => true
  | _ => false
def cmpB : BinOp → Bool
  | .eql => true
  | .neq => true
  | .gtr => true
  | _ => false
def pickB (f k : Nat) : Bool := match f with
  | 14 => Nat.ble 1 k && Nat.ble k 1000
  | 66 => Nat.beq k 4
  | _ => false
def pickA (f k : Nat) : List PV := match f with
  | 14 => [I k]
  | _ => []
def noB (o : BinOp) (y : PV) : Bool := match o, y with
  | .leq, .v (.int .i64 (.ofNat 0)) => true
  | _, _ => false
def keyO (a m : Nat) (args : List PV) : List PV := .top :: .mp 45 :: .tup (Kc a m) :: args
def keyS (a : Nat) (args : List PV) : List PV := .top :: .mp 67 :: .tup (Sc a) :: args
/-- all leaves of a tree have the property; every question is one that has these answers -/
def allL (φ : Lf → Bool) (av : Nat → Bool) (L : Nat) : Wk → Nat → Ctx → Cl → List OpQ → Bool
  | .out q a m t, n, Γ, cs, os => φ ⟨n, Γ, cs, os, q, a, m, t⟩
  | .own f a m args t, n, Γ, cs, os => av f && (isAt Γ a && (argsB Γ L f args && match ty Γ m with
    | some (.num x y) => Nat.ble (x + dx f) 1 && (Nat.ble (y + dy f) 3 &&
      allL φ av L t (n + 3) ((n + 2, .num (x + dx f) (y + dy f)) :: (n + 1, .at) :: (n, resTy f) :: Γ) ((f, keyO a m args, .tup [.unk n, .tup (Kc (n + 1) (n + 2))]) :: cs) os)
    | _ => false))
  | .nxt a k t, n, Γ, cs, os => av 14 && (isAt Γ a && (Nat.ble 1 k && (Nat.ble k 1000 &&
      allL φ av L t (n + 2) ((n + 1, .at) :: (n, .rng k) :: Γ) ((14, keyS a [I k], .tup [.unk n, .tup (Sc (n + 1))]) :: cs) os)))
  | .pick f a k t, n, Γ, cs, os => av f && (isAt Γ a && (pickB f k && allN k fun i => allL φ av L (t i) (n + 1) ((n, .at) :: Γ) ((f, keyS a (pickA f k), .tup [pickV f i, .tup (Sc n)]) :: cs) os))
  | .of x y t, n, Γ, cs, os => av 65 && (envB Γ L true x && (sortB Γ y && allN 8 fun i => allL φ av L (t i) (n + i) (uvars Γ n i) ((65, [x, y], ofAns n i) :: cs) os))
  | .op o ty x y t, n, Γ, cs, os => match opTy Γ o x y with
    | some u => allL φ av L t (n + 1) ((n, u) :: Γ) cs (⟨o, ty, x, y, .unk n⟩ :: os)
    | none => false
  | .cmp o ty x y t0 t1, n, Γ, cs, os => cmpB o && (rngB Γ x && (rngB Γ y && (allL φ av L t0 n Γ cs (⟨o, ty, x, y, Bo false⟩ :: os) && allL φ av L t1 n Γ cs (⟨o, ty, x, y, Bo true⟩ :: os))))
  | .no o ty x y t, n, Γ, cs, os => isDep Γ x && (noB o y && allL φ av L t n Γ cs (⟨o, ty, x, y, Bo false⟩ :: os))
def binEq : BinOp → BinOp → Bool
  | .add, .add => true
  | .sub, .sub => true
  | .eql, .eql => true
  | .neq, .neq => true
  | .gtr, .gtr => true
  | .leq, .leq => true
  | _, _ => false
def askL : List OpQ → AskOp → List PV → Option PV
  | [], _, _ => none
  | q :: r, o, l => match o, l with
    | .bin o' t, [x, y] => match binEq q.o o' && (Nat.beq q.ty t && (eqC q.x x && eqC q.y y)) with
      | true => some q.a
      | false => askL r (.bin o' t) [x, y]
    | _, _ => none
def orcL : Cl → Orc
  | [] => fun _ _ => none
  | (g, key, a) :: r => fun f ds => match Nat.beq g f with
    | true => match peqR ds key with
      | true => some a
      | false => orcL r f ds
    | false => orcL r f ds
end Go.Ev.A

/- Texts and their tokens: definitions. -/
namespace Go.Ev.A
open Go.Proofs
/-- a token as it is written: kind, text, number, bytes; cls: what may stand behind it (0: anything, 1: no byte of a word, 2: a space) -/
structure Lx where
  k : Nat
  t : PV
  n : PV
  w : List Nat
  cls : Nat
def dig (n : Nat) : List Nat := match n with
  | 0 => [48]
  | 1 => [49]
  | 2 => [50]
  | 3 => [51]
  | 4 => [52]
  | 5 => [53]
  | 6 => [54]
  | 7 => [55]
  | 8 => [56]
  | _ => [57]
def upTo : Nat → List Nat
  | 0 => []
  | n + 1 => upTo n ++ [n]
/-- the variables: X, Y, Z, F, V1 .. V40 -/
def varTxts : List (List Nat) := [[88], [89], [90], [70]] ++ ((upTo 9).map fun i => 86 :: dig (i + 1)) ++ ((upTo 31).map fun i => 86 :: (dig ((i + 10) / 10) ++ dig ((i + 10) % 10)))
/-- the small numbers -/
def smalls : List (List Nat × Int) := [([45, 50], -2), ([45, 49], -1), ([48], 0), ([49], 1), ([50], 2), ([51], 3), ([52], 4)]
def litW (k : Nat) (t : PV) : List Nat := match t with
  | .v (.string s) => match k with
    | 4 => 34 :: (s.data.toList.map fun c => c.toNat) ++ [34]
    | 5 => 96 :: (s.data.toList.map fun c => c.toNat) ++ [96]
    | _ => s.data.toList.map fun c => c.toNat
  | _ => []
def clsOf (k : Nat) (t : PV) : Nat := match k with
  | 1 => 1
  | 6 => match txtEq t (S [61]) || txtEq t (S [45]) with
    | true => 2
    | false => 0
  | _ => 0
/-- the tokens that are the same in every text -/
def litLx : List It → List Lx
  | [] => []
  | .tok k (.v t) (.v n) :: r => ⟨k, .v t, .v n, litW k (.v t), clsOf k (.v t)⟩ :: litLx r
  | _ :: r => litLx r
def lexs : List Lx := litLx toks ++ (varTxts.map fun w => ⟨2, S w, I 0, w, 1⟩) ++ (smalls.map fun s => ⟨3, S [], .v (.int .i64 s.2), s.1, 1⟩)
/-! written expressions -/
def tokPc (v : Nat) (m : NumS) : It → List Pc
  | .tok k (.v t) (.v _) => (litW k (.v t)).map .b
  | .tok _ (.unk _) _ => [.u v]
  | .tok _ _ (.unk _) => match m with
    | .lit d => [.b (48 + d)]
    | .u k => [.u k]
  | _ => []
def spPc : Bool → List Pc
  | true => [.b 32]
  | false => []
def flatI (v : Nat) (m : NumS) (sub : Nat → List Pc) : Nat → List Bool → List It → List Pc
  | _, _, [] => []
  | j, fl, .hole :: r => spPc (fl.headD false) ++ (sub j ++ flatI v m sub (j + 1) fl.tail r)
  | j, fl, .tok k s n :: r => spPc (fl.headD false) ++ (tokPc v m (.tok k s n) ++ flatI v m sub (j + 1) fl.tail r)
def flat : TT → List Pc
  | .hole k => [.u k]
  | .prod i fl v m sub => flatI v m (fun j => flat (sub j)) 0 fl (prods.getD i [])
def peqPc : List Pc → List Pc → Bool
  | [], [] => true
  | .b a :: r, .b b :: s => Nat.beq a b && peqPc r s
  | .u a :: r, .u b :: s => Nat.beq a b && peqPc r s
  | _, _ => false
def clsIt : It → Nat
  | .hole => 1
  | .tok k t n => match t, n with
    | .v _, .v _ => clsOf k t
    | _, _ => 1
def isSign : It → Bool
  | .tok 6 _ _ => true
  | _ => false
/-- what stands behind an item suits it; fl: the spaces ahead of the items behind it -/
def aftB (x : It) (fl : List Bool) (r : List It) : Bool := match clsIt x with
  | 0 => true
  | 1 => match r with
    | [] => true
    | y :: _ => fl.headD false || isSign y
  | _ => match r with
    | [] => false
    | _ :: _ => fl.headD false
def slotB (Γ : Ctx) (v : Nat) (m : NumS) : It → Bool
  | .tok _ (.unk _) _ => match ty Γ v with
    | some .var => true
    | _ => false
  | .tok _ _ (.unk _) => match m with
    | .lit d => Nat.ble d 4
    | .u k => match ty Γ k with
      | some .small => true
      | _ => false
  | _ => true
/-- the items of a production are as they should be; ok: its own expressions are -/
def itemsB (Γ : Ctx) (v : Nat) (m : NumS) (ok : Nat → Bool) : Nat → List Bool → List It → Bool
  | _, _, [] => true
  | j, fl, .hole :: r => ok j && (aftB .hole fl.tail r && itemsB Γ v m ok (j + 1) fl.tail r)
  | j, fl, .tok k s n :: r => slotB Γ v m (.tok k s n) && (aftB (.tok k s n) fl.tail r && itemsB Γ v m ok (j + 1) fl.tail r)
/-- at most h productions above each other -/
def ttOk (Γ : Ctx) : TT → Nat → Bool
  | .hole k, _ => match ty Γ k with
    | some .hole => true
    | _ => false
  | .prod i fl v m sub, h => Nat.ble 1 h && (Nat.blt i 46 && (!(fl.headD false) && itemsB Γ v m (fun j => match twoAt (prods.getD i []) j with
      | true => Nat.ble 2 h && ttOk Γ (sub j) (h - 2)
      | false => ttOk Γ (sub j) (h - 1)) 0 fl (prods.getD i [])))
/-- a result is an expression as it is written -/
def resB (Γ : Ctx) (x y h : Nat) (q : PV) (t : Option TT) : Bool := match t with
  | some tt => match pcOf Γ q with
    | some (x', y', l) => Nat.ble x' x && (Nat.ble y' y && (peqPc (flat tt) l && ttOk Γ tt h))
    | none => false
  | none => match tyP Γ q with
    | some .done => true
    | _ => false
/-- the number of variables at a leaf -/
def numB (Γ : Ctx) (x y m : Nat) : Bool := match ty Γ m with
  | some (.num x' y') => Nat.ble x' x && Nat.ble y' y
  | _ => false
/-- what is known at the start: 0 the list, 1 the place, 2 the number, 3 the depth, 4 the sort, 5 the variables -/
def ctx0 : Ctx := [(5, .env), (4, .rng 8), (3, .dep), (2, .num 0 0), (1, .at)]
def pushE (Γ : Ctx) (a : Nat) : Nat → Ctx
  | 0 => Γ
  | k + 1 => pushE ((a + 1, .rng 8) :: (a, .var) :: Γ) (a + 2) k
def envL (a : Nat) : Nat → List (List PV)
  | 0 => []
  | k + 1 => [.unk a, .unk (a + 1)] :: envL (a + 2) k
def ctxE (k : Nat) : Ctx := pushE ctx0 10 k
def envP (k : Nat) : PV := .sl (envL 10 k) false
end Go.Ev.A

/- Trees of questions: what stands in the cells. -/
namespace Go.Ev.A
open Go.Proofs
abbrev Str (l : List UInt8) : PV := .v (.string ⟨⟨l⟩⟩)
structure Pm where
  lp : PV
  d : Nat
  N : Nat
  m0 : Nat
  hi : Nat
  B : Nat
  hole : List UInt8 → Prop
  done : List UInt8 → Prop
def strAt (σ : Nat → PV) (k : Nat) : List UInt8 := match σ k with
  | .v (.string s) => s.data.toList
  | _ => []
def flatP (σ : Nat → PV) : List Pc → List UInt8
  | [] => []
  | .b n :: r => UInt8.ofNat n :: flatP σ r
  | .u k :: r => strAt σ k ++ flatP σ r
def EnvOk (hi : Nat) (x : PV) : Prop := ∃ es, x = .sl es false ∧ 4 ≤ es.length ∧ es.length ≤ hi ∧ ∀ e ∈ es, ∃ t c, e = [S t, I c] ∧ t ∈ varTxts ∧ c < 8
def Ty.holds (p : Pm) (σ : Nat → PV) (c : PV) : Ty → Prop
  | .at => ∃ a : Nat, c = I a
  | .num x y => ∃ m : Nat, c = I m ∧ p.m0 ≤ m ∧ m ≤ p.m0 + x + y * p.N
  | .dep => c = I p.d ∧ 1 ≤ p.d ∧ p.d ≤ 3
  | .low => c = I (p.d - 1)
  | .rng n => ∃ x, x < n ∧ c = I x
  | .var => ∃ t ∈ varTxts, c = S t
  | .small => ∃ s ∈ smalls, c = S s.1
  | .hole => ∃ l, c = Str l ∧ p.hole l ∧ l.length ≤ p.B
  | .done => ∃ l, c = Str l ∧ p.done l
  | .txt x y l => c = Str (flatP σ l) ∧ (flatP σ l).length ≤ x + y * p.B
  | .env => EnvOk p.hi c
def Ty.sc (n : Nat) : Ty → Prop
  | .txt _ _ l => ∀ k, Pc.u k ∈ l → k < n
  | _ => True
theorem flatP_ext {σ τ : Nat → PV} : ∀ {l : List Pc}, (∀ k, Pc.u k ∈ l → τ k = σ k) → flatP τ l = flatP σ l
  | [], _ => rfl
  | .b n :: r, h => by rw [flatP, flatP, flatP_ext fun k hk => h k (List.mem_cons_of_mem _ hk)]
  | .u k :: r, h => by rw [flatP, flatP, flatP_ext fun k hk => h k (List.mem_cons_of_mem _ hk)]; unfold strAt; rw [h k (List.mem_cons_self ..)]
theorem flatP_app {σ : Nat → PV} : ∀ (l m : List Pc), flatP σ (l ++ m) = flatP σ l ++ flatP σ m
  | [], m => rfl
  | .b n :: r, m => by rw [List.cons_append, flatP, flatP, flatP_app r m, List.cons_append]
  | .u k :: r, m => by rw [List.cons_append, flatP, flatP, flatP_app r m, List.append_assoc]
theorem flatP_bytes {σ : Nat → PV} : ∀ (l : List UInt8), flatP σ (l.map fun c => Pc.b c.toNat) = l
  | [] => rfl
  | c :: r => by rw [List.map_cons, flatP, flatP_bytes r]; simp
theorem holds_ext {p : Pm} {σ τ : Nat → PV} {n : Nat} (h : ∀ k, k < n → τ k = σ k) {t : Ty} (hs : t.sc n) {c : PV} (hc : t.holds p σ c) : t.holds p τ c := by
  cases t <;> try exact hc
  rename_i x y l
  have : flatP τ l = flatP σ l := flatP_ext fun k hk => h k (hs k hk)
  show c = Str (flatP τ l) ∧ (flatP τ l).length ≤ x + y * p.B
  rw [this]; exact hc
theorem strAt_S {σ : Nat → PV} {k : Nat} {l : List UInt8} (h : σ k = Str l) : strAt σ k = l := by unfold strAt; rw [h]
theorem one_piece {σ : Nat → PV} {k : Nat} {l : List UInt8} (h : σ k = Str l) : flatP σ [.u k] = l := by simp [flatP, strAt_S h]
structure Sat (p : Pm) (n : Nat) (Γ : Ctx) (σ : Nat → PV) : Prop where
  fit : Fit σ
  lst : σ 0 = p.lp
  pos : 0 < n
  ok : ∀ k t, ty Γ k = some t → k < n ∧ t.holds p σ (σ k) ∧ t.sc n
def upd (σ : Nat → PV) (n : Nat) (c : PV) : Nat → PV := fun k => if k = n then c else σ k
theorem upd_at {σ : Nat → PV} {n : Nat} {c : PV} : upd σ n c n = c := if_pos rfl
theorem upd_lt {σ : Nat → PV} {n k : Nat} {c : PV} (h : k < n) : upd σ n c k = σ k := if_neg (by omega)
theorem Ty.sc_mono {n m : Nat} (h : n ≤ m) {t : Ty} (hs : t.sc n) : t.sc m := by
  cases t <;> try exact hs
  exact fun k hk => Nat.lt_of_lt_of_le (hs k hk) h
theorem Sat.push {p : Pm} {n : Nat} {Γ : Ctx} {σ : Nat → PV} (H : Sat p n Γ σ) {c : PV} (hc : formed c) {t : Ty} (ht : t.holds p σ c) (hs : t.sc n) : Sat p (n + 1) ((n, t) :: Γ) (upd σ n c) where
  fit := ⟨fun k => by unfold upd; split; exact hc.1; exact H.fit.form k, fun k => by unfold upd; split; exact hc.2; exact H.fit.clean k⟩
  lst := by rw [upd_lt H.pos]; exact H.lst
  pos := Nat.succ_pos n
  ok := fun k u hk => by
    unfold ty at hk
    split at hk
    · rename_i hb
      obtain rfl := Nat.eq_of_beq_eq_true hb
      cases hk
      exact ⟨Nat.lt_succ_self _, by rw [upd_at]; exact holds_ext (fun j hj => upd_lt hj) hs ht, Ty.sc_mono (Nat.le_succ _) hs⟩
    · obtain ⟨h1, h2, h3⟩ := H.ok k u hk
      exact ⟨Nat.lt_succ_of_lt h1, by rw [upd_lt h1]; exact holds_ext (fun j hj => upd_lt hj) h3 h2, Ty.sc_mono (Nat.le_succ _) h3⟩
/-- nothing from n on stands in it -/
def Low (n : Nat) (x : PV) : Prop := ∀ σ τ : Nat → PV, (∀ k, k < n → τ k = σ k) → Ev.sub τ x = Ev.sub σ x
def LowL (n : Nat) (l : List PV) : Prop := ∀ σ τ : Nat → PV, (∀ k, k < n → τ k = σ k) → subL τ l = subL σ l
theorem Low.mono {n m : Nat} (h : n ≤ m) {x : PV} (hx : Low n x) : Low m x := fun σ τ g => hx σ τ fun k hk => g k (by omega)
theorem LowL.mono {n m : Nat} (h : n ≤ m) {x : List PV} (hx : LowL n x) : LowL m x := fun σ τ g => hx σ τ fun k hk => g k (by omega)
theorem Low.unk {n k : Nat} (h : k < n) : Low n (.unk k) := fun σ τ g => by rw [Ev.sub, Ev.sub, g k h]
theorem Low.v {n : Nat} {x : Value} : Low n (.v x) := fun σ τ g => by rw [Ev.sub, Ev.sub]
theorem LowL.nil {n : Nat} : LowL n [] := fun σ τ g => rfl
theorem LowL.cons {n : Nat} {x : PV} {l : List PV} (h : Low n x) (g : LowL n l) : LowL n (x :: l) := fun σ τ k => by rw [subL, subL, h σ τ k, g σ τ k]
theorem Low.tup {n : Nat} {l : List PV} (h : LowL n l) : Low n (.tup l) := fun σ τ k => by rw [Ev.sub, Ev.sub, h σ τ k]
theorem Low.sl {n : Nat} : ∀ {es : List (List PV)}, (∀ e ∈ es, LowL n e) → ∀ {ex : Bool}, Low n (.sl es ex)
  | es, h, ex => fun σ τ k => by
    rw [Ev.sub, Ev.sub]
    have : ∀ (l : List (List PV)), (∀ e ∈ l, LowL n e) → subE τ l = subE σ l := by
      intro l
      induction l with
      | nil => intro _; rfl
      | cons e l ih => intro h; rw [subE, subE, h e (List.mem_cons_self ..) σ τ k, ih fun x hx => h x (List.mem_cons_of_mem _ hx)]
    rw [this es h]
section
variable {p : Pm} {n : Nat} {Γ : Ctx} {σ : Nat → PV}
theorem sort_ok (H : Sat p n Γ σ) {s : PV} (h : sortB Γ s = true) : Low n s ∧ ∃ x, x < 8 ∧ Ev.sub σ s = I x := by
  unfold sortB at h
  split at h
  · rename_i k
    split at h
    · rename_i m hk
      obtain ⟨h1, ⟨x, h2, h3⟩, _⟩ := H.ok _ _ hk
      refine ⟨Low.unk h1, x, ?_, by rw [Ev.sub]; exact h3⟩
      have := Nat.le_of_ble_eq_true h
      omega
    · cases h
  · rename_i m
    have := Nat.le_of_ble_eq_true h
    exact ⟨Low.v, m, by omega, by rw [Ev.sub]⟩
  · cases h
theorem name_ok (H : Sat p n Γ σ) {e : List PV} (h : nameB Γ e = true) : LowL n e ∧ ∃ t c, subL σ e = [S t, I c] ∧ t ∈ varTxts ∧ c < 8 := by
  unfold nameB at h
  split at h
  · rename_i k s
    split at h
    · rename_i hk
      obtain ⟨h1, ⟨t, h2, h3⟩, _⟩ := H.ok _ _ hk
      obtain ⟨g1, x, g2, g3⟩ := sort_ok H h
      refine ⟨.cons (Low.unk h1) (.cons g1 .nil), t, x, ?_, h2, g2⟩
      simp only [subL, Ev.sub, h3, g3]
    · cases h
  · cases h
theorem subE_mem {σ : Nat → PV} : ∀ {es : List (List PV)} {e : List PV}, e ∈ subE σ es → ∃ x ∈ es, e = subL σ x
  | [], e, h => by simp [subE] at h
  | a :: r, e, h => by
    rw [subE] at h
    rcases List.mem_cons.1 h with rfl | h
    · exact ⟨a, List.mem_cons_self .., rfl⟩
    · obtain ⟨x, h1, h2⟩ := subE_mem h
      exact ⟨x, List.mem_cons_of_mem _ h1, h2⟩
theorem subE_length {σ : Nat → PV} : ∀ (es : List (List PV)), (subE σ es).length = es.length
  | [] => rfl
  | a :: r => by rw [subE, List.length_cons, subE_length r, List.length_cons]
theorem env_ok (H : Sat p n Γ σ) {hi hi' : Nat} {op : Bool} {x : PV} (h : envB Γ hi op x = true) (h1 : hi ≤ hi') (h2 : op = true → p.hi ≤ hi') : Low n x ∧ EnvOk hi' (Ev.sub σ x) := by
  unfold envB at h
  split at h
  · rename_i k
    simp only [Bool.and_eq_true] at h
    obtain ⟨ho, h⟩ := h
    split at h
    · rename_i hk
      obtain ⟨g1, ⟨es, g2, g3, g4, g5⟩, _⟩ := H.ok _ _ hk
      refine ⟨Low.unk g1, es, by rw [Ev.sub]; exact g2, g3, Nat.le_trans g4 (h2 ho), g5⟩
    · cases h
  · rename_i es
    simp only [Bool.and_eq_true] at h
    obtain ⟨a1, a2, a3⟩ := h
    refine ⟨Low.sl fun e he => (name_ok H (List.all_eq_true.1 a3 e he)).1, subE σ es, by rw [Ev.sub], ?_, ?_, ?_⟩
    · rw [subE_length]; exact Nat.le_of_ble_eq_true a1
    · rw [subE_length]; exact Nat.le_trans (Nat.le_of_ble_eq_true a2) h1
    · intro e he
      obtain ⟨x, hx, rfl⟩ := subE_mem he
      exact (name_ok H (List.all_eq_true.1 a3 x hx)).2
  · cases h
theorem dep_ok (H : Sat p n Γ σ) {x : PV} (h : isDep Γ x = true) : Low n x ∧ Ev.sub σ x = I p.d ∧ 1 ≤ p.d ∧ p.d ≤ 3 := by
  unfold isDep at h
  split at h
  · rename_i hk
    cases x <;> simp [tyP] at hk
    obtain ⟨g1, g2, _⟩ := H.ok _ _ hk
    exact ⟨Low.unk g1, by rw [Ev.sub]; exact g2.1, g2.2⟩
  · cases h
theorem low_ok (H : Sat p n Γ σ) {x : PV} (h : isLow Γ x = true) : Low n x ∧ Ev.sub σ x = I (p.d - 1) := by
  unfold isLow at h
  split at h
  · rename_i hk
    cases x <;> simp [tyP] at hk
    obtain ⟨g1, g2, _⟩ := H.ok _ _ hk
    exact ⟨Low.unk g1, by rw [Ev.sub]; exact g2⟩
  · cases h
theorem at_ok (H : Sat p n Γ σ) {a : Nat} (h : isAt Γ a = true) : a < n ∧ ∃ x : Nat, σ a = I x := by
  unfold isAt at h
  split at h
  · rename_i hk
    obtain ⟨g1, g2, _⟩ := H.ok _ _ hk
    exact ⟨g1, g2⟩
  · cases h
def ArgsOk (p : Pm) (f : Nat) (args : List PV) : Prop := match f with
  | 67 => args = []
  | 32 => args = []
  | 13 => ∃ s e, args = [I s, I (p.d - 1), e] ∧ s < 8 ∧ EnvOk (p.hi + 1) e
  | 29 => ∃ s e, args = [I s, e] ∧ s < 8 ∧ EnvOk p.hi e
  | _ => ∃ s e, args = [I s, I p.d, e] ∧ s < 8 ∧ EnvOk p.hi e
def owns : List Nat := [67, 32, 13, 29, 31, 33, 34]
theorem args_ok (H : Sat p n Γ σ) {L f : Nat} {args : List PV} (hL : L ≤ p.hi) (h : argsB Γ L f args = true) : f ∈ owns ∧ LowL n args ∧ ArgsOk p f (subL σ args) := by
  unfold argsB at h
  split at h
  · exact ⟨by simp [owns], .nil, rfl⟩
  · exact ⟨by simp [owns], .nil, rfl⟩
  · simp only [Bool.and_eq_true] at h
    obtain ⟨a1, x, a2, a3⟩ := sort_ok H h.1
    obtain ⟨b1, b2⟩ := low_ok H h.2.1
    obtain ⟨c1, c2⟩ := env_ok H h.2.2 (hi' := p.hi + 1) (by omega) (fun h => by cases h)
    exact ⟨by simp [owns], .cons a1 (.cons b1 (.cons c1 .nil)), x, _, by simp only [subL, a3, b2], a2, c2⟩
  · simp only [Bool.and_eq_true] at h
    obtain ⟨a1, x, a2, a3⟩ := sort_ok H h.1
    obtain ⟨c1, c2⟩ := env_ok H h.2 (hi' := p.hi) hL (fun h => Nat.le_refl _)
    exact ⟨by simp [owns], .cons a1 (.cons c1 .nil), x, _, by simp only [subL, a3], a2, c2⟩
  all_goals first
    | (simp only [Bool.and_eq_true] at h
       obtain ⟨a1, x, a2, a3⟩ := sort_ok H h.1
       obtain ⟨b1, b2⟩ := dep_ok H h.2.1
       obtain ⟨c1, c2⟩ := env_ok H h.2.2 (hi' := p.hi) hL (fun h => by cases h)
       exact ⟨by simp [owns], .cons a1 (.cons b1 (.cons c1 .nil)), x, _, by simp only [subL, a3, b2.1], a2, c2⟩)
    | (cases h; done)
end
end Go.Ev.A

/- Trees of questions: a walk down such a tree comes to a leaf whose questions all have these answers. -/
namespace Go.Ev.A
open Go.Proofs
def mkS (lp : PV) (a m : Nat) : List PV := [.tup (.mp 67 :: [lp, I a]), NL, I 7, Bo true, I m]
def flatV (x : PV) : Prop := (∃ k, x = .unk k) ∨ ∃ v, x = .v v
section
variable [E : Env]
def Spec (p : Pm) (f : Nat) : Prop := ∀ (a m : Nat) (args : List PV), ArgsOk p f args → m + dx f + dy f * p.N ≤ 40 → ∃ v a' m', m ≤ m' ∧ m' ≤ m + dx f + dy f * p.N ∧ KnownS Tryz.prog f 45 (mkS p.lp a m) args v (mkS p.lp a' m') ∧ (resTy f).holds p (fun _ => NL) v
def ofVal (ks : List (List Nat)) : PV := match ks with
  | [] => NL
  | k :: r => .sl ((k :: r).map fun t => [S t]) false
structure Facts (p : Pm) (av : Nat → Bool) : Prop where
  next : av 14 = true → ∀ a k, 1 ≤ k → k ≤ 1000 → ∃ x a', x < k ∧ KnownS Tryz.prog 14 67 [p.lp, I a] [I k] (I x) [p.lp, I a']
  atom : av 66 = true → ∀ a, ∃ i a', i < 4 ∧ KnownS Tryz.prog 66 67 [p.lp, I a] [] (pickV 66 i) [p.lp, I a']
  of : av 65 = true → ∀ env s, EnvOk p.hi env → s < 8 → ∃ ks : List (List Nat), ks.length < 8 ∧ (∀ k ∈ ks, k ∈ varTxts) ∧ Known Tryz.prog 65 [env, I s] (ofVal ks)
  own : ∀ f ∈ owns, av f = true → Spec p f
def CsOk (n : Nat) (σ : Nat → PV) (cs : Cl) : Prop := ∀ e ∈ cs, KnownX Tryz.prog e.1 (subL σ e.2.1) (Ev.sub σ e.2.2) ∧ LowL n e.2.1 ∧ Low n e.2.2
def OsOk (n : Nat) (σ : Nat → PV) (os : List OpQ) : Prop := ∀ q ∈ os, bin tys q.o q.ty (Ev.sub σ q.x) (Ev.sub σ q.y) = some (Ev.sub σ q.a) ∧ Low n q.x ∧ Low n q.y ∧ Low n q.a ∧ flatV q.x ∧ flatV q.y ∧ flatV q.a
theorem CsOk.ext {n m : Nat} {σ τ : Nat → PV} {cs : Cl} (h : CsOk n σ cs) (hn : n ≤ m) (g : ∀ k, k < n → τ k = σ k) : CsOk m τ cs := fun e he => by
  obtain ⟨h1, h2, h3⟩ := h e he
  refine ⟨?_, h2.mono hn, h3.mono hn⟩
  rw [h2 σ τ g, h3 σ τ g]; exact h1
theorem OsOk.ext {n m : Nat} {σ τ : Nat → PV} {os : List OpQ} (h : OsOk n σ os) (hn : n ≤ m) (g : ∀ k, k < n → τ k = σ k) : OsOk m τ os := fun e he => by
  obtain ⟨h1, h2, h3, h4, h5⟩ := h e he
  refine ⟨?_, h2.mono hn, h3.mono hn, h4.mono hn, h5⟩
  rw [h2 σ τ g, h3 σ τ g, h4 σ τ g]; exact h1
theorem CsOk.add {n : Nat} {σ : Nat → PV} {cs : Cl} (h : CsOk n σ cs) {f : Nat} {k : List PV} {a : PV} (h1 : KnownX Tryz.prog f (subL σ k) (Ev.sub σ a)) (h2 : LowL n k) (h3 : Low n a) : CsOk n σ ((f, k, a) :: cs) := fun e he => by
  rcases List.mem_cons.1 he with rfl | he
  · exact ⟨h1, h2, h3⟩
  · exact h e he
theorem OsOk.add {n : Nat} {σ : Nat → PV} {os : List OpQ} (h : OsOk n σ os) {q : OpQ} (h1 : bin tys q.o q.ty (Ev.sub σ q.x) (Ev.sub σ q.y) = some (Ev.sub σ q.a)) (h2 : Low n q.x) (h3 : Low n q.y) (h4 : Low n q.a) (h5 : flatV q.x) (h6 : flatV q.y) (h7 : flatV q.a) : OsOk n σ (q :: os) := fun e he => by
  rcases List.mem_cons.1 he with rfl | he
  · exact ⟨h1, h2, h3, h4, h5, h6, h7⟩
  · exact h e he
theorem formed_v (v : Value) : formed (.v v) := ⟨.inl ⟨v, rfl⟩, rfl⟩
theorem allN_lt {p : Nat → Bool} : ∀ {n : Nat}, allN n p = true → ∀ i, i < n → p i = true
  | 0, _, i, h => by omega
  | n + 1, h, i, hi => by
    simp only [allN, Bool.and_eq_true] at h
    rcases Nat.lt_or_eq_of_le (Nat.le_of_lt_succ hi) with hi | rfl
    · exact allN_lt h.2 i hi
    · exact h.1
variable {p : Pm} {n : Nat} {Γ : Ctx} {σ : Nat → PV}
theorem var_len : ∀ t ∈ varTxts, t.length ≤ 3 := by
  have : varTxts.all (fun t => Nat.ble t.length 3) = true := by kernel_rfl
  exact fun t ht => Nat.le_of_ble_eq_true (List.all_eq_true.1 this t ht)
theorem small_len : ∀ s ∈ smalls, s.1.length ≤ 2 := by
  have : smalls.all (fun t => Nat.ble t.1.length 2) = true := by kernel_rfl
  exact fun t ht => Nat.le_of_ble_eq_true (List.all_eq_true.1 this t ht)
theorem pc_ok (H : Sat p n Γ σ) {x : PV} {a b : Nat} {l : List Pc} (h : pcOf Γ x = some (a, b, l)) : Low n x ∧ flatV x ∧ Ev.sub σ x = Str (flatP σ l) ∧ (flatP σ l).length ≤ a + b * p.B ∧ ∀ k, Pc.u k ∈ l → k < n := by
  unfold pcOf at h
  split at h
  · rename_i k
    split at h
    · rename_i x y l' hk
      cases h
      obtain ⟨h1, h2, h3⟩ := H.ok _ _ hk
      exact ⟨Low.unk h1, .inl ⟨_, rfl⟩, by rw [Ev.sub]; exact h2.1, h2.2, h3⟩
    · rename_i hk
      cases h
      obtain ⟨h1, ⟨t, h2, h3⟩, _⟩ := H.ok _ _ hk
      have h3 : σ k = Str (t.map UInt8.ofNat) := h3
      refine ⟨Low.unk h1, .inl ⟨_, rfl⟩, ?_, ?_, fun j hj => by simp at hj; omega⟩
      · rw [Ev.sub, one_piece h3]; exact h3
      · rw [one_piece h3, List.length_map]; have := var_len t h2; omega
    · rename_i hk
      cases h
      obtain ⟨h1, ⟨t, h2, h3⟩, _⟩ := H.ok _ _ hk
      have h3 : σ k = Str (t.1.map UInt8.ofNat) := h3
      refine ⟨Low.unk h1, .inl ⟨_, rfl⟩, ?_, ?_, fun j hj => by simp at hj; omega⟩
      · rw [Ev.sub, one_piece h3]; exact h3
      · rw [one_piece h3, List.length_map]; have := small_len t h2; omega
    · rename_i hk
      cases h
      obtain ⟨h1, ⟨t, h2, h3, h4⟩, _⟩ := H.ok _ _ hk
      refine ⟨Low.unk h1, .inl ⟨_, rfl⟩, ?_, ?_, fun j hj => by simp at hj; omega⟩
      · rw [Ev.sub, one_piece h2]; exact h2
      · rw [one_piece h2]; omega
    · cases h
  · rename_i s
    cases h
    refine ⟨Low.v, .inr ⟨_, rfl⟩, ?_, ?_, fun j hj => ?_⟩
    · rw [Ev.sub, flatP_bytes]
    · rw [flatP_bytes]; omega
    · simp at hj
  · cases h
theorem rng_ok (H : Sat p n Γ σ) {x : PV} (h : rngB Γ x = true) : Low n x ∧ flatV x ∧ ∃ a : Nat, Ev.sub σ x = I a := by
  unfold rngB at h
  split at h
  · split at h
    · rename_i hk
      obtain ⟨h1, ⟨x, _, h3⟩, _⟩ := H.ok _ _ hk
      exact ⟨Low.unk h1, .inl ⟨_, rfl⟩, x, by rw [Ev.sub]; exact h3⟩
    · cases h
  · exact ⟨Low.v, .inr ⟨_, rfl⟩, _, by rw [Ev.sub]⟩
  · cases h
theorem cmp_val {o : BinOp} (h : cmpB o = true) (t a b : Nat) : ∃ r, bin tys o t (I a) (I b) = some (Bo r) := by
  unfold cmpB at h
  split at h
  · exact ⟨_, int_eql .i64 _ _⟩
  · exact ⟨_, int_neq .i64 _ _⟩
  · exact ⟨_, int_gtr .i64 _ _⟩
  · cases h
theorem low_Kc {a m : Nat} (ha : a < n) (hm : m < n) (h0 : 0 < n) : LowL n (Kc a m) :=
  .cons (Low.tup (.cons (fun _ _ _ => rfl) (.cons (Low.unk h0) (.cons (Low.unk ha) .nil)))) (.cons Low.v (.cons Low.v (.cons Low.v (.cons (Low.unk hm) .nil))))
theorem low_Sc {a : Nat} (ha : a < n) (h0 : 0 < n) : LowL n (Sc a) := .cons (Low.unk h0) (.cons (Low.unk ha) .nil)
theorem low_top : Low n .top := fun _ _ _ => by rw [Ev.sub, Ev.sub]
theorem low_mp {k : Nat} : Low n (.mp k) := fun _ _ _ => by rw [Ev.sub, Ev.sub]
theorem low_uns : ∀ (k a : Nat), a + k ≤ n → ∀ e ∈ uns a k, LowL n e
  | 0, _, _, e, he => by cases he
  | k + 1, a, h, e, he => by
    rcases List.mem_cons.1 he with rfl | he
    · exact .cons (Low.unk (by omega)) .nil
    · exact low_uns k (a + 1) (by omega) e he
/-- names pushed one by one -/
theorem push_vars : ∀ (ks : List (List Nat)) {n : Nat} {Γ : Ctx} {σ : Nat → PV}, Sat p n Γ σ → (∀ k ∈ ks, k ∈ varTxts) → ∃ τ, Sat p (n + ks.length) (uvars Γ n ks.length) τ ∧ (∀ k, k < n → τ k = σ k) ∧ subE τ (uns n ks.length) = ks.map fun t => [S t]
  | [], n, Γ, σ, H, _ => ⟨σ, H, fun _ _ => rfl, rfl⟩
  | t :: ks, n, Γ, σ, H, h => by
    have H1 := H.push (c := S t) (formed_v _) (t := .var) ⟨t, h t (List.mem_cons_self ..), rfl⟩ trivial
    obtain ⟨τ, h1, h2, h3⟩ := push_vars ks H1 fun k hk => h k (List.mem_cons_of_mem _ hk)
    refine ⟨τ, ?_, fun k hk => by rw [h2 k (by omega), upd_lt hk], ?_⟩
    · rw [List.length_cons, show n + (ks.length + 1) = n + 1 + ks.length by omega]; exact h1
    · rw [List.length_cons, uns, subE, List.map_cons, h3, subL, Ev.sub, h2 n (by omega), upd_at]; rfl
theorem walk {φ : Lf → Bool} {av : Nat → Bool} {L : Nat} (hp1 : ∀ f ∈ owns, av f = true → p.m0 + 1 + 3 * p.N ≤ 40) (hp2 : p.B ≤ 10000) (hp3 : p.hi ≤ 7) (hp4 : L ≤ p.hi) (F : Facts p av) : ∀ (T : Wk) (n : Nat) (Γ : Ctx) (cs : Cl) (os : List OpQ) (σ : Nat → PV), allL φ av L T n Γ cs os = true → Sat p n Γ σ → CsOk n σ cs → OsOk n σ os →
    ∃ (lf : Lf) (τ : Nat → PV), φ lf = true ∧ Sat p lf.n lf.Γ τ ∧ CsOk lf.n τ lf.cs ∧ OsOk lf.n τ lf.os ∧ ∀ k, k < n → τ k = σ k := by
  intro T
  induction T with
  | out q a m t => exact fun n Γ cs os σ h H hc ho => ⟨_, σ, h, H, hc, ho, fun _ _ => rfl⟩
  | own f a m args t ih =>
    intro n Γ cs os σ h H hc ho
    simp only [allL, Bool.and_eq_true] at h
    obtain ⟨hav, ha, hg, h⟩ := h
    split at h
    · rename_i x y hm
      simp only [Bool.and_eq_true] at h
      obtain ⟨hx, hy, h⟩ := h
      have hx := Nat.le_of_ble_eq_true hx
      have hy := Nat.le_of_ble_eq_true hy
      obtain ⟨a1, av_, a2⟩ := at_ok H ha
      obtain ⟨b1, ⟨mv, b2, b3, b4⟩, _⟩ := H.ok _ _ hm
      obtain ⟨c1, c2, c3⟩ := args_ok H hp4 hg
      have e1 : (y + dy f) * p.N ≤ 3 * p.N := Nat.mul_le_mul_right _ hy
      rw [Nat.add_mul] at e1
      have hp1 := hp1 f c1 hav
      obtain ⟨v, a', m', d1, d2, d3, d4⟩ := F.own f c1 hav av_ mv _ c3 (by omega)
      have fv : formed v ∧ (resTy f).sc n := by
        simp only [owns, List.mem_cons, List.not_mem_nil, or_false] at c1
        rcases c1 with rfl | rfl | rfl | rfl | rfl | rfl | rfl
        · obtain ⟨t, _, rfl⟩ := d4; exact ⟨formed_v _, trivial⟩
        · obtain ⟨t, _, rfl⟩ := d4; exact ⟨formed_v _, trivial⟩
        · obtain ⟨t, rfl, _⟩ := d4; exact ⟨formed_v _, trivial⟩
        · obtain ⟨t, rfl, _⟩ := d4; exact ⟨formed_v _, trivial⟩
        · obtain ⟨t, rfl, _⟩ := d4; exact ⟨formed_v _, trivial⟩
        · obtain ⟨t, rfl, _⟩ := d4; exact ⟨formed_v _, trivial⟩
        · obtain ⟨t, rfl, _⟩ := d4; exact ⟨formed_v _, trivial⟩
      have dh : (resTy f).holds p σ v := by
        simp only [owns, List.mem_cons, List.not_mem_nil, or_false] at c1
        rcases c1 with rfl | rfl | rfl | rfl | rfl | rfl | rfl <;> exact d4
      have H1 := H.push fv.1 dh fv.2
      have H2 := H1.push (c := I a') (formed_v _) (t := .at) ⟨a', rfl⟩ trivial
      have H3 := H2.push (c := I m') (formed_v _) (t := .num (x + dx f) (y + dy f)) ⟨m', rfl, by omega, by rw [Nat.add_mul]; omega⟩ trivial
      generalize hτ : upd (upd (upd σ n v) (n + 1) (I a')) (n + 1 + 1) (I m') = τ at H3
      have g : ∀ k, k < n → τ k = σ k := fun k hk => by rw [← hτ, upd_lt (by omega), upd_lt (by omega), upd_lt hk]
      have g0 : τ n = v := by rw [← hτ, upd_lt (by omega), upd_lt (by omega), upd_at]
      have g1 : τ (n + 1) = I a' := by rw [← hτ, upd_lt (by omega), upd_at]
      have g2 : τ (n + 2) = I m' := by rw [← hτ, upd_at]
      have key : KnownX Tryz.prog f (subL τ (keyO a m args)) (Ev.sub τ (.tup [.unk n, .tup (Kc (n + 1) (n + 2))])) := by
        have k1 : subL τ (keyO a m args) = .top :: .mp 45 :: .tup (mkS p.lp av_ mv) :: subL σ args := by
          simp only [keyO, Kc, subL, Ev.sub, H3.lst, g a a1, a2, g m b1, b2, c2 σ τ g]
          rfl
        have k2 : Ev.sub τ (.tup [.unk n, .tup (Kc (n + 1) (n + 2))]) = .tup [v, .tup (mkS p.lp a' m')] := by
          simp only [Kc, subL, Ev.sub, H3.lst, g0, g1, g2]
          rfl
        rw [k1, k2]
        exact ⟨_, _, rfl, d3⟩
      obtain ⟨lf, ρ, r1, r2, r3, r4, r5⟩ := ih (n + 3) _ _ os τ h H3 ((hc.ext (by omega) g).add key
        (.cons low_top (.cons low_mp (.cons (Low.tup (low_Kc (by omega) (by omega) (by omega))) (c2.mono (by omega)))))
        (Low.tup (.cons (Low.unk (by omega)) (.cons (Low.tup (low_Kc (by omega) (by omega) (by omega))) .nil)))) (ho.ext (by omega) g)
      exact ⟨lf, ρ, r1, r2, r3, r4, fun k hk => by rw [r5 k (by omega), g k hk]⟩
    · cases h
  | nxt a k t ih =>
    intro n Γ cs os σ h H hc ho
    simp only [allL, Bool.and_eq_true] at h
    obtain ⟨hav, ha, hk1, hk2, h⟩ := h
    obtain ⟨a1, av_, a2⟩ := at_ok H ha
    obtain ⟨x, a', d1, d2⟩ := F.next hav av_ k (Nat.le_of_ble_eq_true hk1) (Nat.le_of_ble_eq_true hk2)
    have H1 := H.push (c := I x) (formed_v _) (t := .rng k) ⟨x, d1, rfl⟩ trivial
    have H2 := H1.push (c := I a') (formed_v _) (t := .at) ⟨a', rfl⟩ trivial
    generalize hτ : upd (upd σ n (I x)) (n + 1) (I a') = τ at H2
    have g : ∀ k, k < n → τ k = σ k := fun k hk => by rw [← hτ, upd_lt (by omega), upd_lt hk]
    have g0 : τ n = I x := by rw [← hτ, upd_lt (by omega), upd_at]
    have g1 : τ (n + 1) = I a' := by rw [← hτ, upd_at]
    have key : KnownX Tryz.prog 14 (subL τ (keyS a [I k])) (Ev.sub τ (.tup [.unk n, .tup (Sc (n + 1))])) := by
      have k1 : subL τ (keyS a [I k]) = .top :: .mp 67 :: .tup [p.lp, I av_] :: [I k] := by
        simp only [keyS, Sc, subL, Ev.sub, H2.lst, g a a1, a2]
      have k2 : Ev.sub τ (.tup [.unk n, .tup (Sc (n + 1))]) = .tup [I x, .tup [p.lp, I a']] := by
        simp only [Sc, subL, Ev.sub, H2.lst, g0, g1]
      rw [k1, k2]
      exact ⟨_, _, rfl, d2⟩
    obtain ⟨lf, ρ, r1, r2, r3, r4, r5⟩ := ih (n + 2) _ _ os τ h H2 ((hc.ext (by omega) g).add key
      (.cons low_top (.cons low_mp (.cons (Low.tup (low_Sc (by omega) (by omega))) (.cons Low.v .nil))))
      (Low.tup (.cons (Low.unk (by omega)) (.cons (Low.tup (low_Sc (by omega) (by omega))) .nil)))) (ho.ext (by omega) g)
    exact ⟨lf, ρ, r1, r2, r3, r4, fun k hk => by rw [r5 k (by omega), g k hk]⟩
  | pick f a k t ih =>
    intro n Γ cs os σ h H hc ho
    simp only [allL, Bool.and_eq_true] at h
    obtain ⟨hav, ha, hk, h⟩ := h
    unfold pickB at hk
    obtain ⟨a1, av_, a2⟩ := at_ok H ha
    obtain ⟨i, a', d1, d2⟩ : ∃ i a', i < k ∧ KnownS Tryz.prog f 67 [p.lp, I av_] (pickA f k) (pickV f i) [p.lp, I a'] := by
      split at hk
      · simp only [Bool.and_eq_true] at hk
        exact F.next hav av_ k (Nat.le_of_ble_eq_true hk.1) (Nat.le_of_ble_eq_true hk.2)
      · obtain rfl := Nat.eq_of_beq_eq_true hk
        exact F.atom hav av_
      · cases hk
    have H1 := H.push (c := I a') (formed_v _) (t := .at) ⟨a', rfl⟩ trivial
    generalize hτ : upd σ n (I a') = τ at H1
    have g : ∀ k, k < n → τ k = σ k := fun k hk => by rw [← hτ, upd_lt hk]
    have g1 : τ n = I a' := by rw [← hτ, upd_at]
    have lowV : ∀ f i, ∃ v, pickV f i = .v v := by
      intro f i
      unfold pickV
      split
      · exact ⟨_, rfl⟩
      · match i with
        | 0 => exact ⟨_, rfl⟩
        | 1 => exact ⟨_, rfl⟩
        | 2 => exact ⟨_, rfl⟩
        | 3 => exact ⟨_, rfl⟩
        | i + 4 => exact ⟨_, rfl⟩
    obtain ⟨w, hw⟩ := lowV f i
    have lowA : LowL n (pickA f k) := by unfold pickA; split; exact .cons Low.v .nil; exact .nil
    have subA : ∀ σ, subL σ (pickA f k) = (pickA f k) := by
      intro σ
      unfold pickA
      split
      · simp only [subL, Ev.sub]
      · rfl
    have key : KnownX Tryz.prog f (subL τ (keyS a (pickA f k))) (Ev.sub τ (.tup [pickV f i, .tup (Sc n)])) := by
      have k1 : subL τ (keyS a (pickA f k)) = .top :: .mp 67 :: .tup [p.lp, I av_] :: (pickA f k) := by
        simp only [keyS, Sc, subL, Ev.sub, H1.lst, g a a1, a2, subA]
      have k2 : Ev.sub τ (.tup [pickV f i, .tup (Sc n)]) = .tup [pickV f i, .tup [p.lp, I a']] := by
        simp only [Sc, subL, Ev.sub, H1.lst, g1, hw]
      rw [k1, k2]
      exact ⟨_, _, rfl, d2⟩
    obtain ⟨lf, ρ, r1, r2, r3, r4, r5⟩ := ih i (n + 1) _ _ os τ (allN_lt h i d1) H1 ((hc.ext (by omega) g).add key
      (.cons low_top (.cons low_mp (.cons (Low.tup (low_Sc (by omega) (by omega))) (lowA.mono (by omega)))))
      (Low.tup (.cons (by rw [hw]; exact Low.v) (.cons (Low.tup (low_Sc (by omega) (by omega))) .nil)))) (ho.ext (by omega) g)
    exact ⟨lf, ρ, r1, r2, r3, r4, fun k hk => by rw [r5 k (by omega), g k hk]⟩
  | of x y t ih =>
    intro n Γ cs os σ h H hc ho
    simp only [allL, Bool.and_eq_true] at h
    obtain ⟨hav, hx, hy, h⟩ := h
    obtain ⟨c1, c2⟩ := env_ok H hx (hi' := p.hi) hp4 (fun _ => Nat.le_refl _)
    obtain ⟨a1, s, a2, a3⟩ := sort_ok H hy
    obtain ⟨ks, k1, k2, k3⟩ := F.of hav _ s c2 a2
    obtain ⟨τ, H1, g, g1⟩ := push_vars ks H k2
    have key : KnownX Tryz.prog 65 (subL τ [x, y]) (Ev.sub τ (ofAns n ks.length)) := by
      have e1 : subL τ [x, y] = [Ev.sub σ x, I s] := by simp only [subL]; rw [c1 σ τ g, a1 σ τ g, a3]
      have e2 : Ev.sub τ (ofAns n ks.length) = ofVal ks := by
        cases ks with
        | nil => simp only [List.length_nil, ofAns, Ev.sub, ofVal]
        | cons k r => simp only [List.length_cons] at g1 ⊢; simp only [ofAns, Ev.sub, g1]; rfl
      rw [e1, e2]
      obtain ⟨es, he, _⟩ := c2
      rw [he] at k3 ⊢
      exact k3
    obtain ⟨lf, ρ, r1, r2, r3, r4, r5⟩ := ih ks.length (n + ks.length) _ _ os τ (allN_lt h _ k1) H1 ((hc.ext (by omega) g).add key
      (.cons (c1.mono (by omega)) (.cons (a1.mono (by omega)) .nil))
      (by
        cases hl : ks.length with
        | zero => exact Low.v
        | succ i => exact Low.sl (low_uns _ _ (by omega)))) (ho.ext (by omega) g)
    exact ⟨lf, ρ, r1, r2, r3, r4, fun k hk => by rw [r5 k (by omega), g k hk]⟩
  | op o u x y t ih =>
    intro n Γ cs os σ h H hc ho
    simp only [allL] at h
    split at h
    · rename_i ty_ hu
      obtain ⟨v, hv, lx, ly, fx, fy, hs, hh⟩ : ∃ v : Value, bin tys o u (Ev.sub σ x) (Ev.sub σ y) = some (.v v) ∧ Low n x ∧ Low n y ∧ flatV x ∧ flatV y ∧ ty_.sc n ∧ ty_.holds p σ (.v v) := by
        unfold opTy at hu
        split at hu
        · split at hu
          · rename_i x1 y1 l1 x2 y2 l2 e1 e2
            split at hu
            · rename_i hb
              cases hu
              simp only [Bool.and_eq_true] at hb
              have hb1 := Nat.le_of_ble_eq_true hb.1
              have hb2 := Nat.le_of_ble_eq_true hb.2
              obtain ⟨p1, p2, p3, p4, p5⟩ := pc_ok H e1
              obtain ⟨q1, q2, q3, q4, q5⟩ := pc_ok H e2
              have e3 : (y1 + y2) * p.B ≤ 10 * p.B := Nat.mul_le_mul_right _ hb2
              rw [Nat.add_mul] at e3
              have hl : (flatP σ l1).length + (flatP σ l2).length ≤ 9223372036854775807 := by omega
              refine ⟨.string ⟨⟨flatP σ l1 ++ flatP σ l2⟩⟩, ?_, p1, q1, p2, q2, fun k hk => ?_, (show _ = Str (flatP σ (l1 ++ l2)) by rw [flatP_app]), (by rw [flatP_app, List.length_append, Nat.add_mul]; omega)⟩
              · rw [p3, q3]
                show strBin .add _ _ = _
                unfold strBin
                simp only []
                rw [Nat.ble_eq_true_of_le hl]
              · rcases List.mem_append.1 hk with hk | hk
                · exact p5 k hk
                · exact q5 k hk
            · cases hu
          · cases hu
        · split at hu
          · rename_i hd
            cases hu
            obtain ⟨d1, d2, d3, d4⟩ := dep_ok H hd
            refine ⟨_, ?_, d1, Low.v, ?_, .inr ⟨_, rfl⟩, trivial, rfl⟩
            · rw [d2, Ev.sub]
              exact int_sub64 p.d 1 d3 (by omega)
            · unfold isDep at hd
              split at hd
              · rename_i hk
                cases x <;> simp [tyP] at hk
                exact .inl ⟨_, rfl⟩
              · cases hd
          · cases hu
        · cases hu
      have H1 := H.push (formed_v v) hh hs
      generalize hτ : upd σ n (.v v) = τ at H1
      have g : ∀ k, k < n → τ k = σ k := fun k hk => by rw [← hτ, upd_lt hk]
      have g1 : τ n = .v v := by rw [← hτ, upd_at]
      obtain ⟨lf, ρ, r1, r2, r3, r4, r5⟩ := ih (n + 1) _ cs _ τ h H1 (hc.ext (by omega) g) ((ho.ext (by omega) g).add (q := ⟨o, u, x, y, .unk n⟩)
        (by show bin tys o u (Ev.sub τ x) (Ev.sub τ y) = some (Ev.sub τ (.unk n)); rw [lx σ τ g, ly σ τ g, Ev.sub, g1]; exact hv)
        (lx.mono (by omega)) (ly.mono (by omega)) (Low.unk (by omega)) fx fy (.inl ⟨_, rfl⟩))
      exact ⟨lf, ρ, r1, r2, r3, r4, fun k hk => by rw [r5 k (by omega), g k hk]⟩
    · cases h
  | cmp o u x y t0 t1 ih0 ih1 =>
    intro n Γ cs os σ h H hc ho
    simp only [allL, Bool.and_eq_true] at h
    obtain ⟨h1, h2, h3, h4, h5⟩ := h
    obtain ⟨p1, p2, a, p3⟩ := rng_ok H h2
    obtain ⟨q1, q2, b, q3⟩ := rng_ok H h3
    obtain ⟨r, hr⟩ := cmp_val h1 u a b
    have e : bin tys o u (Ev.sub σ x) (Ev.sub σ y) = some (Bo r) := by rw [p3, q3]; exact hr
    cases r with
    | false => exact ih0 n Γ cs _ σ h4 H hc (ho.add (q := ⟨o, u, x, y, Bo false⟩) (by show bin tys o u _ _ = some (Ev.sub σ (Bo false)); rw [Ev.sub]; exact e) p1 q1 Low.v p2 q2 (.inr ⟨_, rfl⟩))
    | true => exact ih1 n Γ cs _ σ h5 H hc (ho.add (q := ⟨o, u, x, y, Bo true⟩) (by show bin tys o u _ _ = some (Ev.sub σ (Bo true)); rw [Ev.sub]; exact e) p1 q1 Low.v p2 q2 (.inr ⟨_, rfl⟩))
  | no o u x y t ih =>
    intro n Γ cs os σ h H hc ho
    simp only [allL, Bool.and_eq_true] at h
    obtain ⟨hd, h1, h2⟩ := h
    unfold noB at h1
    split at h1
    · obtain ⟨d1, d2, d3, d4⟩ := dep_ok H hd
      have fx : flatV x := by
        unfold isDep at hd
        split at hd
        · rename_i hk
          cases x <;> simp [tyP] at hk
          exact .inl ⟨_, rfl⟩
        · cases hd
      refine ih n Γ cs _ σ h2 H hc (ho.add (q := ⟨.leq, u, x, I 0, Bo false⟩) ?_ d1 Low.v Low.v fx (.inr ⟨_, rfl⟩) (.inr ⟨_, rfl⟩))
      show bin tys .leq u _ _ = some (Ev.sub σ (Bo false))
      rw [d2, Ev.sub, Ev.sub]
      show intOp .leq .i64 .i64 (.ofNat p.d) (.ofNat 0) = _
      rw [int_leq, ile_false (by omega)]
    · cases h1
end
end Go.Ev.A

/- Runs of functions of values that ask an oracle. -/
namespace Go.Ev
section
variable [Env] {P : Program} {T : Types}
theorem known_goes (hT : TOk P T) (hm : P.follows .mixedOrders = true) {FT : Fns} (hF : FTOk P FT) {O : Orc} (hO : OrcOk P O) {f : Nat} {fi : FI} (hf : FIOk P f fi) {n : Nat} {ds : List PV} {q : PV}
    (h : goesD T FT O n fi ds q = true) : Known P f ds q := by
  have hr := run_sound (R := PV) (.un : PV) hT (drawSound (R := PV) .un hT hm) hF hO n
  have hu := run_uni (T := T) (R := PV) FT O n
  unfold goesD at h
  have e : dataF ((bodyB (R := PV) T fi).f (runF T FT O n)) (fun p _ => some p) (some (ds, ⟨[], 0, []⟩)) = callD (R := PV) T fi (run T FT O n) (fun p _ => some p) (some (ds, ⟨[], 0, []⟩)) := by
    show (bodyB T fi).f (runF T FT O n) ds ⟨[], 0, []⟩ (dataKF _ ⟨[], 0, []⟩) = _
    rw [bodyB_eq, dataKF_eq, runF_eq]
    rfl
  rw [e] at h
  split at h
  · rename_i p hp
    unfold callD at hp
    simp only [] at hp
    rcases bodyF_uni (T := T) hu fi ds ⟨[], 0, []⟩ with g | ⟨x, h', g⟩
    · have g' : ∀ k, bodyF T fi (run T FT O n) ds ⟨[], 0, []⟩ k = none := g
      rw [g'] at hp; cases hp
    · have g' : ∀ k, bodyF T fi (run T FT O n) ds ⟨[], 0, []⟩ k = k x h' := g
      rw [g'] at hp
      unfold dataK at hp
      cases hq : freeze deepN h' x with
      | none => simp [hq] at hp
      | some qh =>
        simp only [hq] at hp
        cases hp
        obtain ⟨h1, h2⟩ := bodyF_sound' (.un : PV) hT hu hr ⟨hf.1, hf.2.1, hf.2.2.1⟩ g'
        refine ⟨h1, fun w F args hF1 hv => ?_⟩
        refine Calls.mono (h2 w F noMap args (HS.empty 0 hF1) hv) ?_
        rintro e w' ⟨v, F', M', rfl, k1, k2, k3⟩
        obtain ⟨F2, m1, m2, m3⟩ := freeze_sound deepN h' x qh.1 qh.2 hq F' v k2 k1
        have hx : Ext w w' F F2 noMap M' := k3.trans m2
        have hx' : Ext w w' F F2 noMap noMap := ⟨hx.os, hx.tape, hx.output, hx.size, hx.keep, hx.cell, fun _ _ h => h, hx.mF, fun _ _ h => .inl h, hx.newF⟩
        exact ⟨v, F2, rfl, peq_VR 1000 h m3, m1.fw, hx'⟩
  · cases h
end
end Go.Ev
