/- Regions as chains of the evaluator's own operations, and laws of the chains. -/
import Derived.Test.YtmlnfoabpcccnaaGreatEvBc
import Derived.KernelRfl
set_option linter.all false
/- Regions as chains of the evaluator's own operations, and laws of the chains. -/
namespace Go.Ev

def codeOf (f : Func) : Code := match f.body with
  | some c => c
  | none => .skip

/-- the region of a number; the first one counts -/
def regFind (id : Nat) : Code → Option Code
  | .region i ops d => match Nat.beq i id with
    | true => some (.region i ops d)
    | false => none
  | .seq a b => match regFind id a with
    | some c => some c
    | none => regFind id b
  | .cond _ a b => match regFind id a with
    | some c => some c
    | none => regFind id b
  | .block _ c => regFind id c
  | .loop c => regFind id c
  | _ => none
def regAt (id : Nat) (c : Code) : Code := match regFind id c with
  | some r => r
  | none => .skip

section
variable {R : Type}
def bP (x : Option (PV × Hp)) (f : PV → Hp → Option R) : Option R := match x with
  | none => none
  | some (p, h) => f p h
def bE (q : Option (Option (Nat × List PV))) (call : CallK R) (h : Hp) (f : PV → Hp → Option R) : Option R := match q with
  | none => none
  | some none => none
  | some (some (g, l)) => call g l h f
def bW (w : Option Bool) (h : Hp) (act : (PV → Hp → Option R) → Option R) (f : PV → Hp → Option R) : Option R := match w with
  | none => none
  | some false => f .un h
  | some true => act f
/-- regions that draw their order -/
def bWD (w : Option Bool) (h : Hp) (act : (PV → Hp → Option R) → Option R) (f : Bool → PV → Hp → Option R) : Option R := match w with
  | none => none
  | some false => f false .un h
  | some true => act (f true)
def bLg (x : Option Lg) (f : Lg → Option R) : Option R := match x with
  | none => none
  | some l => f l
def ranL (run : Bool) (lg : Lg) (x : Option Lg) : Option Lg := match run with
  | false => some lg
  | true => x
def convLog (lg : Lg) : PV → Option Lg
  | .v (.int _ _) => some lg
  | _ => none
def lgAlloc (lg : Lg) (i : Nat) : Lg := ⟨lg.loads, lg.effs, i :: lg.allocs⟩
@[congr] theorem bWD_congr {x y : Option Bool} (h : x = y) (hp : Hp) (act : (PV → Hp → Option R) → Option R) (f : Bool → PV → Hp → Option R) : bWD x hp act f = bWD y hp act f := by rw [h]
@[congr] theorem bLg_congr {x y : Option Lg} (h : x = y) (f : Lg → Option R) : bLg x f = bLg y f := by rw [h]
theorem bWD_true (h : Hp) (act : (PV → Hp → Option R) → Option R) (f : Bool → PV → Hp → Option R) : bWD (some true) h act f = act (f true) := _root_.id rfl
theorem bWD_false (h : Hp) (act : (PV → Hp → Option R) → Option R) (f : Bool → PV → Hp → Option R) : bWD (some false) h act f = f false .un h := _root_.id rfl
theorem bLg_some (l : Lg) (f : Lg → Option R) : bLg (some l) f = f l := _root_.id rfl
theorem ranL_true (lg : Lg) (x : Option Lg) : ranL true lg x = x := _root_.id rfl
theorem ranL_false (lg : Lg) (x : Option Lg) : ranL false lg x = some lg := _root_.id rfl
theorem logLoad_v (T : Types) (i m : Nat) (ld : List (Nat × TypeId × PV × PV)) (al : List Nat) (n : Nat) (x : Value) (t : TypeId) (id off : Nat) :
    logLoad T i m ⟨ld, [], al⟩ n (.v x) (some (t, .ptr id off)) = some ⟨(i, t, .ptr id off, .v x) :: ld, [], al⟩ := _root_.id rfl
theorem logLoad_sl (T : Types) (i m : Nat) (ld : List (Nat × TypeId × PV × PV)) (al : List Nat) (n : Nat) (x : List (List PV)) (ex : Bool) (t : TypeId) (id off : Nat) :
    logLoad T i m ⟨ld, [], al⟩ n (.sl x ex) (some (t, .ptr id off)) = some ⟨(i, t, .ptr id off, .sl x ex) :: ld, [], al⟩ := _root_.id rfl
theorem logLoad_ep (T : Types) (i m : Nat) (lg : Lg) (n : Nat) (x : PV) (t : TypeId) (cs : List PV) (off : Nat) :
    logLoad T i m lg n x (some (t, .ep cs off)) = some lg := _root_.id rfl
def bB (x : Option PV) (t e : Unit → Option R) : Option R := match x with
  | some (.v (.bool true)) => t ()
  | some (.v (.bool false)) => e ()
  | _ => none

def bQ (x : Option PV) (f : PV → Option R) : Option R := match x with
  | none => none
  | some p => f p
def oneR (o : Option (List PV)) : Option PV := match o with
  | some [p] => some p
  | some [] => some .un
  | some l => some (.tup l)
  | none => none
@[congr] theorem bQ_congr {x y : Option PV} (h : x = y) (f : PV → Option R) : bQ x f = bQ y f := by rw [h]
theorem bQ_some (p : PV) (f : PV → Option R) : bQ (some p) f = f p := _root_.id rfl
theorem oneR_one (p : PV) : oneR (some [p]) = some p := _root_.id rfl
theorem oneR_nil : oneR (some []) = some .un := _root_.id rfl
theorem oneR_two (p q : PV) (l : List PV) : oneR (some (p :: q :: l)) = some (.tup (p :: q :: l)) := _root_.id rfl
theorem consO_some (p : PV) (l : List PV) : consO (some p) (some l) = some (p :: l) := _root_.id rfl
theorem endK_ret (T : Types) (fn : Func) (k : PV → Hp → Option R) (tm : Tm) (hp : Hp) : endK T fn k .ret ⟨tm, hp⟩ = bQ (resOf T fn ⟨tm, hp⟩) (fun p => k p hp) := _root_.id rfl
theorem endK_normal (T : Types) (fn : Func) (k : PV → Hp → Option R) (tm : Tm) (hp : Hp) : endK T fn k .normal ⟨tm, hp⟩ = bQ (resOf T fn ⟨tm, hp⟩) (fun p => k p hp) := _root_.id rfl
theorem call_data {T : Types} {FT : Fns} {O : Orc} {rc : RC R} {f : Nat} {fi : FI} (hf : FT.get f = some fi) (hd : fi.data = true) {l : List PV} {hp : Hp} {k : PV → Hp → Option R} (hl : freezeL deepN hp l = some (l, hp)) :
    callF T FT O rc f l hp k = bodyF T fi rc l ⟨[], 0, []⟩ (dataK k hp) := by
  unfold callF
  rw [hf]
  simp only []
  rw [hd]
  simp only [hl, callD]
theorem call_own {T : Types} {FT : Fns} {O : Orc} {rc : RC R} {f : Nat} {fi : FI} (hf : FT.get f = some fi) (hd : fi.data = false) (hm : fi.mix = false) (hb : fi.fn.body.isSome = true) (hz : fi.frz = false) (l : List PV) (hp : Hp) (k : PV → Hp → Option R) :
    callF T FT O rc f l hp k = bodyF T fi rc l hp k := by
  unfold callF
  rw [hf]
  simp only []
  rw [hd, hm]
  cases hbb : fi.fn.body with
  | none => rw [hbb] at hb; cases hb
  | some c => simp only [ownF, hz]
theorem call_frz {T : Types} {FT : Fns} {O : Orc} {rc : RC R} {f : Nat} {fi : FI} (hf : FT.get f = some fi) (hd : fi.data = false) (hm : fi.mix = false) (hb : fi.fn.body.isSome = true) (hz : fi.frz = true) (l : List PV) (hp : Hp) (k : PV → Hp → Option R) :
    callF T FT O rc f l hp k = bodyF T fi rc l hp (frzK k) := by
  unfold callF
  rw [hf]
  simp only []
  rw [hd, hm]
  cases hbb : fi.fn.body with
  | none => rw [hbb] at hb; cases hb
  | some c => simp only [ownF, hz]
theorem frzK_eq (k : PV → Hp → Option R) {p q : PV} {h h' : Hp} (hf : freeze deepN h p = some (q, h')) : frzK k p h = k q h' := by
  unfold frzK
  rw [hf]
theorem call_asked {T : Types} {FT : Fns} {O : Orc} {rc : RC R} {f : Nat} (hf : FT.get f = none) {l : List PV} {hp : Hp} {k : PV → Hp → Option R} (hl : freezeL deepN hp l = some (l, hp)) {q : PV} (hq : O f l = some q) :
    callF T FT O rc f l hp k = k q hp := by
  unfold callF
  rw [hf]
  simp only [callA]
  split
  · exact absurd hl (by simp [deepN, freezeL, freeze])
  · simp only [hl, callO, hq]
theorem dataK_eq (k : PV → Hp → Option R) (hp : Hp) {p q : PV} {h h' : Hp} (hf : freeze deepN h p = some (q, h')) : dataK k hp p h = k q hp := by
  unfold dataK
  rw [hf]
@[congr] theorem bP_congr {x y : Option (PV × Hp)} (h : x = y) (f : PV → Hp → Option R) : bP x f = bP y f := by rw [h]
@[congr] theorem bE_congr {x y : Option (Option (Nat × List PV))} (h : x = y) (call : CallK R) (hp : Hp) (f : PV → Hp → Option R) : bE x call hp f = bE y call hp f := by rw [h]
@[congr] theorem bW_congr {x y : Option Bool} (h : x = y) (hp : Hp) (act : (PV → Hp → Option R) → Option R) (f : PV → Hp → Option R) : bW x hp act f = bW y hp act f := by rw [h]
@[congr] theorem bB_congr {x y : Option PV} (h : x = y) (t e : Unit → Option R) : bB x t e = bB y t e := by rw [h]

theorem bP_some (p : PV) (h : Hp) (f : PV → Hp → Option R) : bP (some (p, h)) f = f p h := _root_.id rfl
theorem bE_some (g : Nat) (l : List PV) (call : CallK R) (h : Hp) (f : PV → Hp → Option R) : bE (some (some (g, l))) call h f = call g l h f := _root_.id rfl
theorem bW_true (h : Hp) (act : (PV → Hp → Option R) → Option R) (f : PV → Hp → Option R) : bW (some true) h act f = act f := _root_.id rfl
theorem bW_false (h : Hp) (act : (PV → Hp → Option R) → Option R) (f : PV → Hp → Option R) : bW (some false) h act f = f .un h := _root_.id rfl
theorem bB_true (t e : Unit → Option R) : bB (some (.v (.bool true))) t e = t () := _root_.id rfl
theorem bB_false (t e : Unit → Option R) : bB (some (.v (.bool false))) t e = e () := _root_.id rfl
theorem bB_bool (b : Bool) (t e : Unit → Option R) : bB (some (.v (.bool b))) t e = if b = true then t () else e () := by cases b <;> rfl

variable (T : Types) (fi : FI) (call : CallK R) (rc : RC R) (tm : Tm) (hp : Hp) (k : Ex → St → Option R)
theorem ev_skip : evC T fi .skip call rc ⟨tm, hp⟩ k = k .normal ⟨tm, hp⟩ := _root_.id rfl
theorem ev_seq (a b : Code) : evC T fi (.seq a b) call rc ⟨tm, hp⟩ k = evC T fi a call rc ⟨tm, hp⟩ (seqK (fun st' => evC T fi b call rc st' k) k) := _root_.id rfl
theorem ev_cond (c : Operand) (x y : Code) : evC T fi (.cond c x y) call rc ⟨tm, hp⟩ k = bB (opd c tm) (fun _ => evC T fi x call rc ⟨tm, hp⟩ k) (fun _ => evC T fi y call rc ⟨tm, hp⟩ k) := by
  show (match opd c tm with
    | some (.v (.bool true)) => evC T fi x call rc ⟨tm, hp⟩ k
    | some (.v (.bool false)) => evC T fi y call rc ⟨tm, hp⟩ k
    | _ => none) = _
  unfold bB
  split <;> rfl
theorem ev_block (id : Nat) (c : Code) : evC T fi (.block id c) call rc ⟨tm, hp⟩ k = evC T fi c call rc ⟨tm, hp⟩ (blockK id k) := _root_.id rfl
theorem ev_loop (c : Code) : evC T fi (.loop c) call rc ⟨tm, hp⟩ k = evC T fi c call rc ⟨tm, hp⟩ (seqK (fun st' => rc fi (.loop c) st' k) k) := _root_.id rfl
theorem ev_exit (id : Nat) : evC T fi (.exit id) call rc ⟨tm, hp⟩ k = k (.exit id) ⟨tm, hp⟩ := _root_.id rfl
theorem ev_ret : evC T fi .ret call rc ⟨tm, hp⟩ k = k .ret ⟨tm, hp⟩ := _root_.id rfl
theorem seqK_normal (next : St → Option R) (st : St) : seqK next k .normal st = next st := _root_.id rfl
theorem seqK_exit (next : St → Option R) (i : Nat) (st : St) : seqK next k (.exit i) st = k (.exit i) st := _root_.id rfl
theorem seqK_ret (next : St → Option R) (st : St) : seqK next k .ret st = k .ret st := _root_.id rfl
theorem blockK_normal (id : Nat) (st : St) : blockK id k .normal st = k .normal st := _root_.id rfl
theorem blockK_ret (id : Nat) (st : St) : blockK id k .ret st = k .ret st := _root_.id rfl
theorem blockK_exit (id i : Nat) (st : St) : blockK id k (.exit i) st = bif Nat.beq i id then k .normal st else k (.exit i) st := by
  show (match Nat.beq i id with | true => k .normal | false => k (.exit i)) st = _
  cases Nat.beq i id <;> rfl
theorem blockK_at (id i : Nat) (st : St) : blockK id k (.exit i) st = if i = id then k .normal st else k (.exit i) st := by
  rw [blockK_exit]
  by_cases h : i = id
  · subst h; simp
  · have : Nat.beq i id = false := by rw [Bool.eq_false_iff]; intro e; exact h (Nat.eq_of_beq_eq_true e)
    rw [this, if_neg h]; exact rfl
theorem run_succ (FT : Fns) (O : Orc) (n : Nat) (c : Code) (st : St) : run T FT O (n + 1) fi c st k = evC T fi c (callF T FT O (run T FT O n)) (run T FT O n) st k := _root_.id rfl
end
end Go.Ev

/- Laws for runs with unknowns: numbers, growing slices, freezing. -/
namespace Go.Ev

/-! ### numbers -/
theorem ofNat_ble (a b : Nat) : ileb (.ofNat a) (.ofNat b) = Nat.ble a b := _root_.id rfl
theorem wrapU {k : IntKind} (h : k.signed = false) (m : Nat) : k.wrap (.ofNat m) = .ofNat (m % 2 ^ k.bits) := by
  unfold IntKind.wrap
  simp only [h, Bool.false_and, Bool.false_eq_true, if_false]
  rfl
theorem wrapqU {k : IntKind} (h : k.signed = false) (m : Nat) : wrapq k (.ofNat m) = .ofNat (m % 2 ^ k.bits) := by
  unfold wrapq
  cases k <;> first | exact wrapU rfl m | (exact absurd h (by decide))
theorem wrapq64 {m : Nat} (h : m ≤ 9223372036854775807) : wrapq .i64 (.ofNat m) = .ofNat m := by
  simp [wrapq, Nat.ble_eq_true_of_le h]

section
variable {T : Types} {hp : Hp}
theorem primBin_eq (op : BinOp) (t : TypeId) (x y : PV) : primBin T hp op t (some x) (some y) = ret1 hp (bin T op t x y) := _root_.id rfl
theorem bin_int (op : BinOp) (t : TypeId) (k k' : IntKind) (a b : Int) : bin T op t (.v (.int k a)) (.v (.int k' b)) = intOp op k k' a b := _root_.id rfl
theorem bin_str (op : BinOp) (t : TypeId) (a b : ByteArray) : bin T op t (.v (.string a)) (.v (.string b)) = strBin op a b := _root_.id rfl
theorem ret1_some' (p : PV) : ret1 hp (some p) = some (p, hp) := _root_.id rfl
theorem primUn_eq (op : UnOp) (x : PV) : primUn hp op (some x) = ret1 hp (una op x) := _root_.id rfl

theorem int_rem (k : IntKind) (a : Nat) (b : Nat) (hb : b ≠ 0) : intOp .rem k k (.ofNat a) (.ofNat b) = some (.v (.int k (.ofNat (a % b)))) := by
  have : ieqb (.ofNat b) 0 = false := by
    cases b with
    | zero => exact absurd rfl hb
    | succ b => rfl
  show (match decide (k = k) with | true => intBin .rem k (.ofNat a) (.ofNat b) | false => none) = _
  simp only [decide_true, intBin, this]
  rfl
theorem int_quo (k : IntKind) (hk : k.signed = false) (a : Nat) (b : Nat) (hb : b ≠ 0) (ha : a < 2 ^ k.bits) : intOp .quo k k (.ofNat a) (.ofNat b) = some (.v (.int k (.ofNat (a / b)))) := by
  have : ieqb (.ofNat b) 0 = false := by
    cases b with
    | zero => exact absurd rfl hb
    | succ b => rfl
  show (match decide (k = k) with | true => intBin .quo k (.ofNat a) (.ofNat b) | false => none) = _
  simp only [decide_true, intBin, this]
  have h2 : (Int.ofNat a).tdiv (Int.ofNat b) = Int.ofNat (a / b) := _root_.id rfl
  rw [h2, wrapqU hk, Nat.mod_eq_of_lt (Nat.lt_of_le_of_lt (Nat.div_le_self _ _) ha)]
theorem int_addU (k : IntKind) (hk : k.signed = false) (a b : Nat) : intOp .add k k (.ofNat a) (.ofNat b) = some (.v (.int k (.ofNat ((a + b) % 2 ^ k.bits)))) := by
  show (match decide (k = k) with | true => intBin .add k (.ofNat a) (.ofNat b) | false => none) = _
  simp only [decide_true, intBin]
  have h2 : (Int.ofNat a) + (Int.ofNat b) = Int.ofNat (a + b) := _root_.id rfl
  rw [h2, wrapqU hk]
theorem int_add64 (a b : Nat) (h : a + b ≤ 9223372036854775807) : intOp .add .i64 .i64 (.ofNat a) (.ofNat b) = some (.v (.int .i64 (.ofNat (a + b)))) := by
  show some (PV.v (.int .i64 (wrapq .i64 (Int.ofNat a + Int.ofNat b)))) = _
  have h2 : (Int.ofNat a) + (Int.ofNat b) = Int.ofNat (a + b) := _root_.id rfl
  rw [h2, wrapq64 h]
theorem int_sub64 (a b : Nat) (h : b ≤ a) (h2 : a ≤ 9223372036854775807) : intOp .sub .i64 .i64 (.ofNat a) (.ofNat b) = some (.v (.int .i64 (.ofNat (a - b)))) := by
  show some (PV.v (.int .i64 (wrapq .i64 (Int.ofNat a - Int.ofNat b)))) = _
  have h3 : (Int.ofNat a) - (Int.ofNat b) = Int.ofNat (a - b) := by simp; omega
  rw [h3, wrapq64 (by omega)]
theorem int_cmp (op : BinOp) (k : IntKind) (a b : Int) (hs : op ≠ .shl ∧ op ≠ .shr) : intOp op k k a b = intBin op k a b := by
  cases op <;> first | exact absurd rfl hs.1 | exact absurd rfl hs.2 | (show (match decide (k = k) with | true => _ | false => none) = _; simp only [decide_true])
theorem int_lss (k : IntKind) (a b : Int) : intOp .lss k k a b = some (.v (.bool (!ileb b a))) := int_cmp .lss k a b ⟨by simp, by simp⟩
theorem int_leq (k : IntKind) (a b : Int) : intOp .leq k k a b = some (.v (.bool (ileb a b))) := int_cmp .leq k a b ⟨by simp, by simp⟩
theorem int_gtr (k : IntKind) (a b : Int) : intOp .gtr k k a b = some (.v (.bool (!ileb a b))) := int_cmp .gtr k a b ⟨by simp, by simp⟩
theorem int_geq (k : IntKind) (a b : Int) : intOp .geq k k a b = some (.v (.bool (ileb b a))) := int_cmp .geq k a b ⟨by simp, by simp⟩
theorem int_eql (k : IntKind) (a b : Int) : intOp .eql k k a b = some (.v (.bool (ieqb a b))) := int_cmp .eql k a b ⟨by simp, by simp⟩
theorem int_neq (k : IntKind) (a b : Int) : intOp .neq k k a b = some (.v (.bool (!ieqb a b))) := int_cmp .neq k a b ⟨by simp, by simp⟩
theorem int_shl (k k' : IntKind) (a n : Nat) : intOp .shl k k' (.ofNat a) (.ofNat n) = some (.v (.int k (k.wrap (.ofNat a * 2 ^ (min n k.bits))))) := _root_.id rfl
theorem int_shlU (k k' : IntKind) (hk : k.signed = false) (a n : Nat) (hn : n ≤ k.bits) : intOp .shl k k' (.ofNat a) (.ofNat n) = some (.v (.int k (.ofNat (a * 2 ^ n % 2 ^ k.bits)))) := by
  rw [int_shl, Nat.min_eq_left hn]
  have : (Int.ofNat a) * 2 ^ n = Int.ofNat (a * 2 ^ n) := by simp
  rw [this, wrapU hk]
theorem int_shr (k k' : IntKind) (a n : Nat) (hn : n ≤ k.bits) : intOp .shr k k' (.ofNat a) (.ofNat n) = some (.v (.int k (.ofNat (a / 2 ^ n)))) := by
  show some (PV.v (.int k (.ofNat (a / 2 ^ (min n k.bits))))) = _
  rw [Nat.min_eq_left hn]
theorem bitsU {k : IntKind} {m n : Nat} (f : Nat → Nat → Nat) (hk : k.signed = false) (hm : m < 2 ^ k.bits) (hn : n < 2 ^ k.bits) : bitBin f k (.ofNat m) (.ofNat n) = some (.v (.int k (.ofNat (f m n)))) := by
  show (match Nat.blt m (2 ^ k.bits) && Nat.blt n (2 ^ k.bits) && !k.signed with | true => _ | false => _) = _
  have h1 : Nat.blt m (2 ^ k.bits) = true := Nat.ble_eq_true_of_le hm
  have h2 : Nat.blt n (2 ^ k.bits) = true := Nat.ble_eq_true_of_le hn
  simp only [h1, h2, hk, Bool.not_false, Bool.and_true]
theorem int_xorU (k : IntKind) (hk : k.signed = false) (m n : Nat) (hm : m < 2 ^ k.bits) (hn : n < 2 ^ k.bits) : intOp .xor k k (.ofNat m) (.ofNat n) = some (.v (.int k (.ofNat (m ^^^ n)))) :=
  (int_cmp .xor k _ _ ⟨by simp, by simp⟩).trans (bitsU _ hk hm hn)
theorem int_andU (k : IntKind) (hk : k.signed = false) (m n : Nat) (hm : m < 2 ^ k.bits) (hn : n < 2 ^ k.bits) : intOp .and k k (.ofNat m) (.ofNat n) = some (.v (.int k (.ofNat (m &&& n)))) :=
  (int_cmp .and k _ _ ⟨by simp, by simp⟩).trans (bitsU _ hk hm hn)
theorem int_orU (k : IntKind) (hk : k.signed = false) (m n : Nat) (hm : m < 2 ^ k.bits) (hn : n < 2 ^ k.bits) : intOp .or k k (.ofNat m) (.ofNat n) = some (.v (.int k (.ofNat (m ||| n)))) :=
  (int_cmp .or k _ _ ⟨by simp, by simp⟩).trans (bitsU _ hk hm hn)

theorem conv_int_eq {s d : TypeId} {si di : TyI} (hs : T.get s = some si) (hd : T.get d = some di) (h1 : si.kind = 6) (h2 : di.kind = 6) (k : IntKind) (n : Int) :
    primConv T hp s d (some (.v (.int k n))) = some (.v (.int di.ik (wrapq di.ik n)), hp) := by
  unfold primConv
  show primConv0 T hp s d (some (.v (.int k n))) = _
  unfold primConv0
  simp only [hs, hd, h1, h2]
  rfl

/-! ### growing slices -/
/-- slices of elements of sz cells -/
structure SlT (T : Types) (sT : TypeId) (ty sz : Nat) (by' : Nat) : Prop where
  ex : ∃ si ei, T.get sT = some si ∧ si.elem = ty ∧ si.kind = 1 ∧ T.get si.elem = some ei ∧ ei.size = sz ∧ ei.bytes = by' ∧ ei.zero.length = sz
  sz1 : 1 ≤ sz
  by1 : 1 ≤ by'

/-- a slice that has grown from nothing -/
def AccS (ty sz : Nat) (hp : Hp) (x : PV) (es : List (List PV)) : Prop :=
  (∀ e ∈ es, e.length = sz) ∧ ((x = .v (.slice none 0 0) ∧ es = []) ∨ ∃ id, x = .row id 0 es.length es.length sz ∧ id < hp.next ∧ hp.get id = some ⟨es.flatten, sz, true, 0, ty⟩)

theorem AccS.nil (ty sz : Nat) (hp : Hp) : AccS ty sz hp (.v (.slice none 0 0)) [] := ⟨fun _ h => by simp at h, .inl ⟨rfl, rfl⟩⟩

theorem flatten_len {sz : Nat} : ∀ {es : List (List PV)}, (∀ e ∈ es, e.length = sz) → es.flatten.length = es.length * sz
  | [], _ => by simp
  | e :: es, h => by
    rw [List.flatten_cons, List.length_append, flatten_len (fun e he => h e (List.mem_cons_of_mem _ he)), h e List.mem_cons_self, List.length_cons, Nat.add_mul]
    omega

theorem get_new_next (hp : Hp) (b : Blk) : (hp.new b).get hp.next = some b := by
  unfold Hp.new Hp.get
  unfold Al.get
  simp
theorem Al.get_ne {α : Type} {k n : Nat} (x : α) (r : Al α) (h : k ≠ n) : Al.get ((k, x) :: r) n = Al.get r n := by
  unfold Al.get
  have : Nat.beq k n = false := by rw [Bool.eq_false_iff]; intro e; exact h (Nat.eq_of_beq_eq_true e)
  rw [this]
  cases r <;> rfl
theorem alget {α : Type} (k : Nat) (x : α) (r : Al α) (n : Nat) : Al.get ((k, x) :: r) n = if k = n then some x else Al.get r n := by
  by_cases h : k = n
  · subst h; rw [if_pos rfl]; unfold Al.get; simp
  · rw [if_neg h, Al.get_ne x r h]
theorem get_new_ne (hp : Hp) (b : Blk) {i : Nat} (h : i ≠ hp.next) : (hp.new b).get i = hp.get i := Al.get_ne b hp.blks (Ne.symm h)
theorem Al.del_ne {α : Type} (l : Al α) {i j : Nat} (h : j ≠ i) : Al.get (Al.del l i) j = Al.get l j := by
  induction l with
  | nil => rfl
  | cons p r ih =>
    obtain ⟨k, x⟩ := p
    unfold Al.del
    cases hk : Nat.beq k i with
    | true =>
      have := Nat.eq_of_beq_eq_true hk
      subst this
      rw [Al.get_ne x r (Ne.symm h)]
      exact ih
    | false =>
      show Al.get ((k, x) :: Al.del r i) j = Al.get ((k, x) :: r) j
      by_cases e : k = j
      · subst e; unfold Al.get; simp
      · rw [Al.get_ne x _ e, Al.get_ne x _ e]; exact ih
theorem get_kill_ne (hp : Hp) {i j : Nat} (h : j ≠ i) : (hp.kill i).get j = hp.get j := Al.del_ne hp.blks h

theorem cut_all {α : Type} (l : List α) (n : Nat) (h : l.length = n) : cut l 0 n = some l := by
  unfold cut
  subst h
  rw [List.drop_zero]
  induction l with
  | nil => rfl
  | cons x l ih => show (match takeN l l.length with | none => none | some r => some (x :: r)) = _; rw [ih]

/-- one element more -/
theorem AccS.app {sT ty sz by' ty0 : Nat} (ht : SlT T sT ty sz by') {x : PV} {es : List (List PV)} (h : AccS ty sz hp x es) {e : List PV} (he : e.length = sz) (hl : (2 * (es.length + 1) + 1024) * by' ≤ 281474976710656) :
    ∃ x' hp', app T sT (hp.new ⟨e, sz, false, 0, ty0⟩) x (.row hp.next 0 1 1 sz) = some (x', hp') ∧ AccS ty sz hp' x' (es ++ [e]) ∧ hp.next ≤ hp'.next ∧ hp'.maps = hp.maps ∧ (∃ m, x' = .row (hp.next + 1) 0 m m sz) ∧
      ∀ j, j < hp.next → (∀ o l c s, x ≠ .row j o l c s) → hp'.get j = hp.get j := by
  obtain ⟨si, ei, h1, rfl, h2, h3, h4, h5, h6⟩ := ht.ex
  have hs1 := ht.sz1
  have hb1 := ht.by1
  have hc : (Nat.ble 1 ei.size && Nat.ble 1 ei.bytes && Nat.beq ei.zero.length ei.size) = true := by
    rw [h4, h5, h6]
    simp only [Bool.and_eq_true]
    exact ⟨⟨Nat.ble_eq_true_of_le hs1, Nat.ble_eq_true_of_le hb1⟩, Nat.beq_refl _⟩
  have hsrc : srcCells (hp.new ⟨e, sz, false, 0, ty0⟩) ei.size (.row hp.next 0 1 1 sz) = some (1, e) := by
    show (match Nat.beq sz ei.size with | false => none | true => match (hp.new ⟨e, sz, false, 0, ty0⟩).get hp.next with | none => none | some b => match cut b.cells 0 (1 * ei.size) with | none => none | some l => some (1, l)) = _
    rw [h4, Nat.beq_refl, get_new_next]
    simp only []
    rw [cut_all e (1 * sz) (by omega)]
  have hlim : limited (es.length + 1) ei.bytes = true := by
    rw [h5]; exact Nat.ble_eq_true_of_le hl
  have hall : ∀ e' ∈ es ++ [e], e'.length = sz := by
    intro e' he'
    rcases List.mem_append.1 he' with g | g
    · exact h.1 e' g
    · simp at g; subst g; exact he
  unfold Ev.app
  simp only [h1, h2, h3, hc, hsrc]
  show ∃ x' hp', appTo (hp.new ⟨e, sz, false, 0, ty0⟩) si.elem ei x 1 e = some (x', hp') ∧ _
  rcases h.2 with ⟨rfl, rfl⟩ | ⟨id, rfl, hid, hg⟩
  · have hlim1 : limited 1 ei.bytes = true := hlim
    refine ⟨.row (hp.next + 1) 0 1 1 ei.size, (hp.new ⟨e, sz, false, 0, ty0⟩).new ⟨e, ei.size, true, 0, si.elem⟩, ?_, ?_, ?_, rfl, ⟨1, by rw [h4]⟩, ?_⟩
    · show appNil _ si.elem ei 1 e = _
      unfold appNil newRow
      simp only [hlim1]
      rfl
    · refine ⟨hall, .inr ⟨hp.next + 1, by rw [h4]; rfl, by show hp.next + 1 < hp.next + 1 + 1; omega, ?_⟩⟩
      have := get_new_next (hp.new ⟨e, sz, false, 0, ty0⟩) ⟨e, ei.size, true, 0, si.elem⟩
      rw [h4] at this ⊢
      have hfe : ([] ++ [e] : List (List PV)).flatten = e := by simp
      rw [hfe]
      exact this
    · show hp.next ≤ hp.next + 1 + 1; omega
    · intro j hj _
      rw [get_new_ne _ _ (by show j ≠ hp.next + 1; omega), get_new_ne _ _ (by omega)]
  · have hle : Nat.ble (es.length + 1) es.length = false := by
      rw [Bool.eq_false_iff]; intro e; have := Nat.le_of_ble_eq_true e; omega
    have hget : (hp.new ⟨e, sz, false, 0, ty0⟩).get id = some ⟨es.flatten, sz, true, 0, si.elem⟩ := by rw [get_new_ne _ _ (by omega)]; exact hg
    have hfl := flatten_len h.1
    have hblt : Nat.blt (0 + es.length * sz) es.flatten.length = false := by
      rw [hfl, Bool.eq_false_iff]; intro e
      have := Nat.le_of_ble_eq_true e
      omega
    refine ⟨.row (hp.next + 1) 0 (es.length + 1) (es.length + 1) sz, ((hp.new ⟨e, sz, false, 0, ty0⟩).kill id).new ⟨es.flatten ++ e, sz, true, 0, si.elem⟩, ?_, ?_, ?_, rfl, ⟨_, rfl⟩, ?_⟩
    · show appRow _ si.elem ei id 0 es.length es.length 1 e = _
      unfold appRow
      simp only [hget, h4, Nat.beq_refl, hle]
      unfold appOut
      simp only [hlim, cut_all es.flatten (es.length * sz) hfl, hblt, Nat.beq_refl, Bool.not_true, Bool.or_false, newRow]
      rfl
    · refine ⟨hall, .inr ⟨hp.next + 1, by simp, by show hp.next + 1 < hp.next + 1 + 1; omega, ?_⟩⟩
      have := get_new_next ((hp.new ⟨e, sz, false, 0, ty0⟩).kill id) ⟨es.flatten ++ e, sz, true, 0, si.elem⟩
      have hfe : (es ++ [e]).flatten = es.flatten ++ e := by simp
      rw [hfe]
      exact this
    · show hp.next ≤ hp.next + 1 + 1; omega
    · intro j hj hx
      have hji : j ≠ id := fun e => hx 0 es.length es.length sz (by rw [e])
      rw [get_new_ne _ _ (by show j ≠ hp.next + 1; omega), get_kill_ne _ hji, get_new_ne _ _ (by omega)]
end
end Go.Ev
namespace Go.Ev
/-! ### bytes as a text -/
abbrev u8c (b : Nat) : PV := .v (.int .u8 (.ofNat b))
theorem bytesOf_map : ∀ (bs : List Nat), bytesOf (bs.map u8c) = some (bs.map UInt8.ofNat)
  | [] => rfl
  | b :: bs => by
    show (match bytesOf (bs.map u8c) with | none => none | some l => some (UInt8.ofNat b :: l)) = _
    rw [bytesOf_map bs]; rfl
theorem flatten_one {α β : Type} (f : α → β) (l : List α) : (l.map fun a => [f a]).flatten = l.map f := by
  induction l with
  | nil => rfl
  | cons a l ih => simp [ih]
theorem AccS.str {ty : Nat} {T : Types} {hp : Hp} {s d : TypeId} {si di ei : TyI} (hs : T.get s = some si) (hd : T.get d = some di) (h1 : di.kind = 4) (h2 : si.kind = 1) (he : T.get si.elem = some ei) (h3 : ei.kind = 6) (h4 : ei.size = 1) (h5 : ei.ik = .u8)
    {x : PV} {bs : List Nat} (h : AccS ty 1 hp x (bs.map fun b => [u8c b])) : primConv T hp s d (some x) = some (.v (.string ⟨⟨bs.map UInt8.ofNat⟩⟩), hp) := by
  have hb : isByteT T si.elem = true := by
    unfold isByteT
    simp only [he, h3, h4, h5]
    rfl
  have hlen : (bs.map fun b => [u8c b]).length = bs.length := by simp
  have hand : (Nat.beq di.kind 4 && Nat.beq si.kind 1 && isByteT T si.elem) = true := by rw [h1, h2, hb]; rfl
  rcases h.2 with ⟨rfl, he0⟩ | ⟨id, rfl, hid, hg⟩
  · have : bs = [] := by simpa using he0
    subst this
    unfold primConv
    simp only []
    unfold primConv0
    simp only [hs, hd, hand]
    rfl
  · have hx : srcCells hp 1 (.row id 0 (bs.map fun b => [u8c b]).length (bs.map fun b => [u8c b]).length 1) = some (bs.length, bs.map u8c) := by
      show (match Nat.beq 1 1 with | false => none | true => match hp.get id with | none => none | some b => match cut b.cells 0 (_ * 1) with | none => none | some l => some (_, l)) = _
      rw [hg]
      simp only [hlen, flatten_one]
      rw [cut_all (bs.map u8c) (bs.length * 1) (by simp)]
    unfold primConv
    simp only []
    unfold primConv0
    simp only [hs, hd, hand, hx, bytesStr, bytesOf_map]
theorem freeze_v (n : Nat) (hp : Hp) (x : Value) : freeze (n + 1) hp (.v x) = some (.v x, hp) := _root_.id rfl
end Go.Ev
namespace Go.Ev
/-! ### tests, blocks -/
theorem want_tt : wantOf true (some (.v (.bool true))) = some true := _root_.id rfl
theorem want_tf : wantOf true (some (.v (.bool false))) = some false := _root_.id rfl
theorem want_ft : wantOf false (some (.v (.bool true))) = some false := _root_.id rfl
theorem want_ff : wantOf false (some (.v (.bool false))) = some true := _root_.id rfl
theorem pick_t (hp : Hp) (a b : PV) : primPick hp (some a) (some b) (some (.v (.bool true))) = some (a, hp) := _root_.id rfl
theorem pick_f (hp : Hp) (a b : PV) : primPick hp (some a) (some b) (some (.v (.bool false))) = some (b, hp) := _root_.id rfl
/-- a choice whose other side was not wanted -/
theorem pick_tu (hp : Hp) (a : PV) (b : Option PV) : primPick hp (some a) b (some (.v (.bool true))) = some (a, hp) := _root_.id rfl
theorem pick_fu (hp : Hp) (a : Option PV) (b : PV) : primPick hp a (some b) (some (.v (.bool false))) = some (b, hp) := _root_.id rfl
theorem nil_ptr (hp : Hp) (id o : Nat) : primNil hp (some (.ptr id o)) = some (.ptr id o, hp) := _root_.id rfl
theorem nil_ep (hp : Hp) (c : List PV) (o : Nat) : primNil hp (some (.ep c o)) = some (.ep c o, hp) := _root_.id rfl
theorem ieqb_nat (a b : Nat) : ieqb (.ofNat a) (.ofNat b) = decide (a = b) := by
  show Nat.beq a b = _
  by_cases h : a = b
  · subst h; simp
  · rw [decide_eq_false h, Bool.eq_false_iff]; intro e; exact h (Nat.eq_of_beq_eq_true e)
theorem ileb_nat (a b : Nat) : ileb (.ofNat a) (.ofNat b) = decide (a ≤ b) := by
  show Nat.ble a b = _
  by_cases h : a ≤ b
  · rw [decide_eq_true h]; exact Nat.ble_eq_true_of_le h
  · rw [decide_eq_false h, Bool.eq_false_iff]; intro e; exact h (Nat.le_of_ble_eq_true e)
theorem Al.get_set' {α : Type} (l : Al α) (i j : Nat) (y : α) : Al.get (Al.set l i y) j = if j = i then (Al.get l i).map fun _ => y else Al.get l j := by
  induction l with
  | nil => by_cases h : j = i <;> simp [Al.set, Al.get, h]
  | cons p r ih =>
    obtain ⟨k, x⟩ := p
    unfold Al.set
    cases hk : Nat.beq k i with
    | true =>
      have := Nat.eq_of_beq_eq_true hk
      subst this
      by_cases hj : j = k
      · subst hj; simp [alget]
      · simp [alget, hj, Ne.symm hj]
    | false =>
      have hne : k ≠ i := fun e => by subst e; simp at hk
      by_cases hj : j = i
      · subst hj; simp [alget, hne, ih]
      · simp [alget, hj, ih]
theorem get_put (hp : Hp) (id : Nat) (b b' : Blk) (h : hp.get id = some b') : (hp.put id b).get id = some b := by
  have h' : Al.get hp.blks id = some b' := h
  show Al.get (Al.set hp.blks id b) id = _
  rw [Al.get_set', if_pos rfl, h']; rfl
theorem Al.set_cons {α : Type} (k : Nat) (z : α) (r : Al α) (i : Nat) (y : α) : Al.set ((k, z) :: r) i y = if k = i then (k, y) :: r else (k, z) :: Al.set r i y := by
  by_cases h : k = i
  · subst h; rw [if_pos rfl]; conv => lhs; unfold Al.set
    simp
  · have : Nat.beq k i = false := by rw [Bool.eq_false_iff]; intro e; exact h (Nat.eq_of_beq_eq_true e)
    rw [if_neg h]; conv => lhs; unfold Al.set
    simp [this]
theorem Al.set_set {α : Type} (l : Al α) (i : Nat) (x y : α) : Al.set (Al.set l i x) i y = Al.set l i y := by
  induction l with
  | nil => rfl
  | cons p r ih =>
    obtain ⟨k, z⟩ := p
    by_cases h : k = i
    · simp [Al.set_cons, h]
    · simp [Al.set_cons, h, ih]
theorem put_put (hp : Hp) (id : Nat) (b b' : Blk) : (hp.put id b).put id b' = hp.put id b' := by
  show Hp.mk (Al.set (Al.set hp.blks id b) id b') hp.next hp.maps = _
  rw [Al.set_set]; rfl
/-- a field of one cell, read -/
theorem load_cell {T : Types} {hp : Hp} {t : TypeId} {i : TyI} (ht : T.get t = some i) (ha : i.isAgg = false) {id off : Nat} {b : Blk} (hg : hp.get id = some b) {x : PV} (hx : b.cells[off]? = some x) :
    primLoad T hp t (some (.ptr id off)) = some (x, hp) := by
  show ret1 hp (match hp.get id with | none => none | some b => partOf T t b.cells off) = _
  rw [hg]
  simp only [partOf, ht, ha, hx]
  rfl
theorem store_cell {T : Types} {hp : Hp} {t : TypeId} {i : TyI} (ht : T.get t = some i) (h1 : i.size = 1) {id off : Nat} {b : Blk} (hg : hp.get id = some b) (hf : b.frz = 0) {v : PV} (hc : pvCells v = some [v]) {cs : List PV} (hp' : putAt b.cells off [v] = some cs) :
    primStore T hp t (some (.ptr id off)) (some v) = some (.un, hp.put id ⟨cs, b.sz, b.loose, b.frz, b.ty⟩) := by
  show stored (match hp.get id with | none => none | some b => match sizeT T t with | none => none | some sz => match pvCells v with | none => none | some xs => storeIn hp id off b xs sz) = _
  have hst : sizeT T t = some 1 := by unfold sizeT; rw [ht]; simp only [h1]
  rw [hg]
  simp only [hst, hc, storeIn, hf, hp']
  rfl
end Go.Ev
