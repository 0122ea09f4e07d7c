/- Regions as chains of the evaluator's own operations, and laws of the chains. -/
import Derived.Test.YthblmompgocidaaGreatDoorEvFast
import Derived.KernelRfl
set_option linter.all false
namespace Go.Ev

def codeOf (f : Func) : Code := match f.body with
  | some c => c
  | none => .skip

/-- the region of a number; the first one counts -/
def regFind (id : Nat) : Code → Option Code
  | .region i ops d => match Nat.beq i id with
    | true => some (.region i ops d)
    | false => none
  | .seq a b => match regFind id a with
    | some c => some c
    | none => regFind id b
  | .cond _ a b => match regFind id a with
    | some c => some c
    | none => regFind id b
  | .block _ c => regFind id c
  | .loop c => regFind id c
  | _ => none
def regAt (id : Nat) (c : Code) : Code := match regFind id c with
  | some r => r
  | none => .skip

section
variable {R : Type}
def bP (x : Option (PV × Hp)) (f : PV → Hp → Option R) : Option R := match x with
  | none => none
  | some (p, h) => f p h
def bE (q : Option (Option (Nat × List PV))) (call : CallK R) (h : Hp) (f : PV → Hp → Option R) : Option R := match q with
  | none => none
  | some none => none
  | some (some (g, l)) => call g l h f
def bW (w : Option Bool) (h : Hp) (act : (PV → Hp → Option R) → Option R) (f : PV → Hp → Option R) : Option R := match w with
  | none => none
  | some false => f .un h
  | some true => act f
/-- regions that draw their order -/
def bWD (w : Option Bool) (h : Hp) (act : (PV → Hp → Option R) → Option R) (f : Bool → PV → Hp → Option R) : Option R := match w with
  | none => none
  | some false => f false .un h
  | some true => act (f true)
def bLg (x : Option Lg) (f : Lg → Option R) : Option R := match x with
  | none => none
  | some l => f l
def ranL (run : Bool) (lg : Lg) (x : Option Lg) : Option Lg := match run with
  | false => some lg
  | true => x
def convLog (lg : Lg) : PV → Option Lg
  | .v (.int _ _) => some lg
  | _ => none
def lgAlloc (lg : Lg) (i : Nat) : Lg := ⟨lg.loads, lg.effs, i :: lg.allocs⟩
@[congr] theorem bWD_congr {x y : Option Bool} (h : x = y) (hp : Hp) (act : (PV → Hp → Option R) → Option R) (f : Bool → PV → Hp → Option R) : bWD x hp act f = bWD y hp act f := by rw [h]
@[congr] theorem bLg_congr {x y : Option Lg} (h : x = y) (f : Lg → Option R) : bLg x f = bLg y f := by rw [h]
theorem bWD_true (h : Hp) (act : (PV → Hp → Option R) → Option R) (f : Bool → PV → Hp → Option R) : bWD (some true) h act f = act (f true) := _root_.id rfl
theorem bWD_false (h : Hp) (act : (PV → Hp → Option R) → Option R) (f : Bool → PV → Hp → Option R) : bWD (some false) h act f = f false .un h := _root_.id rfl
theorem bLg_some (l : Lg) (f : Lg → Option R) : bLg (some l) f = f l := _root_.id rfl
theorem ranL_true (lg : Lg) (x : Option Lg) : ranL true lg x = x := _root_.id rfl
theorem ranL_false (lg : Lg) (x : Option Lg) : ranL false lg x = some lg := _root_.id rfl
theorem logLoad_v (T : Types) (i m : Nat) (ld : List (Nat × TypeId × PV × PV)) (al : List Nat) (n : Nat) (x : Value) (t : TypeId) (id off : Nat) :
    logLoad T i m ⟨ld, [], al⟩ n (.v x) (some (t, .ptr id off)) = some ⟨(i, t, .ptr id off, .v x) :: ld, [], al⟩ := _root_.id rfl
theorem logLoad_sl (T : Types) (i m : Nat) (ld : List (Nat × TypeId × PV × PV)) (al : List Nat) (n : Nat) (x : List (List PV)) (ex : Bool) (t : TypeId) (id off : Nat) :
    logLoad T i m ⟨ld, [], al⟩ n (.sl x ex) (some (t, .ptr id off)) = some ⟨(i, t, .ptr id off, .sl x ex) :: ld, [], al⟩ := _root_.id rfl
theorem logLoad_ep (T : Types) (i m : Nat) (lg : Lg) (n : Nat) (x : PV) (t : TypeId) (cs : List PV) (off : Nat) :
    logLoad T i m lg n x (some (t, .ep cs off)) = some lg := _root_.id rfl
def bB (x : Option PV) (t e : Unit → Option R) : Option R := match x with
  | some (.v (.bool true)) => t ()
  | some (.v (.bool false)) => e ()
  | _ => none

def bQ (x : Option PV) (f : PV → Option R) : Option R := match x with
  | none => none
  | some p => f p
def oneR (o : Option (List PV)) : Option PV := match o with
  | some [p] => some p
  | some [] => some .un
  | some l => some (.tup l)
  | none => none
@[congr] theorem bQ_congr {x y : Option PV} (h : x = y) (f : PV → Option R) : bQ x f = bQ y f := by rw [h]
theorem bQ_some (p : PV) (f : PV → Option R) : bQ (some p) f = f p := _root_.id rfl
theorem oneR_one (p : PV) : oneR (some [p]) = some p := _root_.id rfl
theorem oneR_nil : oneR (some []) = some .un := _root_.id rfl
theorem oneR_two (p q : PV) (l : List PV) : oneR (some (p :: q :: l)) = some (.tup (p :: q :: l)) := _root_.id rfl
theorem consO_some (p : PV) (l : List PV) : consO (some p) (some l) = some (p :: l) := _root_.id rfl
theorem endK_ret (T : Types) (fn : Func) (k : PV → Hp → Option R) (tm : Tm) (hp : Hp) : endK T fn k .ret ⟨tm, hp⟩ = bQ (resOf T fn ⟨tm, hp⟩) (fun p => k p hp) := _root_.id rfl
theorem endK_normal (T : Types) (fn : Func) (k : PV → Hp → Option R) (tm : Tm) (hp : Hp) : endK T fn k .normal ⟨tm, hp⟩ = bQ (resOf T fn ⟨tm, hp⟩) (fun p => k p hp) := _root_.id rfl
theorem call_data {T : Types} {FT : Fns} {O : Orc} {rc : RC R} {f : Nat} {fi : FI} (hf : FT.get f = some fi) (hd : fi.data = true) {l : List PV} {hp : Hp} {k : PV → Hp → Option R} (hl : freezeL deepN hp l = some (l, hp)) :
    callF T FT O rc f l hp k = bodyF T fi rc l ⟨[], 0, []⟩ (dataK k hp) := by
  unfold callF
  rw [hf]
  simp only []
  rw [hd]
  simp only [hl, callD]
theorem call_own {T : Types} {FT : Fns} {O : Orc} {rc : RC R} {f : Nat} {fi : FI} (hf : FT.get f = some fi) (hd : fi.data = false) (hm : fi.mix = false) (hb : fi.fn.body.isSome = true) (hz : fi.frz = false) (l : List PV) (hp : Hp) (k : PV → Hp → Option R) :
    callF T FT O rc f l hp k = bodyF T fi rc l hp k := by
  unfold callF
  rw [hf]
  simp only []
  rw [hd, hm]
  cases hbb : fi.fn.body with
  | none => rw [hbb] at hb; cases hb
  | some c => simp only [ownF, hz]
theorem call_frz {T : Types} {FT : Fns} {O : Orc} {rc : RC R} {f : Nat} {fi : FI} (hf : FT.get f = some fi) (hd : fi.data = false) (hm : fi.mix = false) (hb : fi.fn.body.isSome = true) (hz : fi.frz = true) (l : List PV) (hp : Hp) (k : PV → Hp → Option R) :
    callF T FT O rc f l hp k = bodyF T fi rc l hp (frzK k) := by
  unfold callF
  rw [hf]
  simp only []
  rw [hd, hm]
  cases hbb : fi.fn.body with
  | none => rw [hbb] at hb; cases hb
  | some c => simp only [ownF, hz]
theorem frzK_eq (k : PV → Hp → Option R) {p q : PV} {h h' : Hp} (hf : freeze deepN h p = some (q, h')) : frzK k p h = k q h' := by
  unfold frzK
  rw [hf]
theorem call_asked {T : Types} {FT : Fns} {O : Orc} {rc : RC R} {f : Nat} (hf : FT.get f = none) {l : List PV} {hp : Hp} {k : PV → Hp → Option R} (hl : freezeL deepN hp l = some (l, hp)) {q : PV} (hq : O f l = some q) :
    callF T FT O rc f l hp k = k q hp := by
  unfold callF
  rw [hf]
  simp only [callA]
  split
  · exact absurd hl (by simp [deepN, freezeL, freeze])
  · simp only [hl, callO, hq]
theorem dataK_eq (k : PV → Hp → Option R) (hp : Hp) {p q : PV} {h h' : Hp} (hf : freeze deepN h p = some (q, h')) : dataK k hp p h = k q hp := by
  unfold dataK
  rw [hf]
@[congr] theorem bP_congr {x y : Option (PV × Hp)} (h : x = y) (f : PV → Hp → Option R) : bP x f = bP y f := by rw [h]
@[congr] theorem bE_congr {x y : Option (Option (Nat × List PV))} (h : x = y) (call : CallK R) (hp : Hp) (f : PV → Hp → Option R) : bE x call hp f = bE y call hp f := by rw [h]
@[congr] theorem bW_congr {x y : Option Bool} (h : x = y) (hp : Hp) (act : (PV → Hp → Option R) → Option R) (f : PV → Hp → Option R) : bW x hp act f = bW y hp act f := by rw [h]
@[congr] theorem bB_congr {x y : Option PV} (h : x = y) (t e : Unit → Option R) : bB x t e = bB y t e := by rw [h]

theorem bP_some (p : PV) (h : Hp) (f : PV → Hp → Option R) : bP (some (p, h)) f = f p h := _root_.id rfl
theorem bE_some (g : Nat) (l : List PV) (call : CallK R) (h : Hp) (f : PV → Hp → Option R) : bE (some (some (g, l))) call h f = call g l h f := _root_.id rfl
theorem bW_true (h : Hp) (act : (PV → Hp → Option R) → Option R) (f : PV → Hp → Option R) : bW (some true) h act f = act f := _root_.id rfl
theorem bW_false (h : Hp) (act : (PV → Hp → Option R) → Option R) (f : PV → Hp → Option R) : bW (some false) h act f = f .un h := _root_.id rfl
theorem bB_true (t e : Unit → Option R) : bB (some (.v (.bool true))) t e = t () := _root_.id rfl
theorem bB_false (t e : Unit → Option R) : bB (some (.v (.bool false))) t e = e () := _root_.id rfl
theorem bB_bool (b : Bool) (t e : Unit → Option R) : bB (some (.v (.bool b))) t e = if b = true then t () else e () := by cases b <;> rfl

variable (T : Types) (fi : FI) (call : CallK R) (rc : RC R) (tm : Tm) (hp : Hp) (k : Ex → St → Option R)
theorem ev_skip : evC T fi .skip call rc ⟨tm, hp⟩ k = k .normal ⟨tm, hp⟩ := _root_.id rfl
theorem ev_seq (a b : Code) : evC T fi (.seq a b) call rc ⟨tm, hp⟩ k = evC T fi a call rc ⟨tm, hp⟩ (seqK (fun st' => evC T fi b call rc st' k) k) := _root_.id rfl
theorem ev_cond (c : Operand) (x y : Code) : evC T fi (.cond c x y) call rc ⟨tm, hp⟩ k = bB (opd c tm) (fun _ => evC T fi x call rc ⟨tm, hp⟩ k) (fun _ => evC T fi y call rc ⟨tm, hp⟩ k) := by
  show (match opd c tm with
    | some (.v (.bool true)) => evC T fi x call rc ⟨tm, hp⟩ k
    | some (.v (.bool false)) => evC T fi y call rc ⟨tm, hp⟩ k
    | _ => none) = _
  unfold bB
  split <;> rfl
theorem ev_block (id : Nat) (c : Code) : evC T fi (.block id c) call rc ⟨tm, hp⟩ k = evC T fi c call rc ⟨tm, hp⟩ (blockK id k) := _root_.id rfl
theorem ev_loop (c : Code) : evC T fi (.loop c) call rc ⟨tm, hp⟩ k = evC T fi c call rc ⟨tm, hp⟩ (seqK (fun st' => rc fi (.loop c) st' k) k) := _root_.id rfl
theorem ev_exit (id : Nat) : evC T fi (.exit id) call rc ⟨tm, hp⟩ k = k (.exit id) ⟨tm, hp⟩ := _root_.id rfl
theorem ev_ret : evC T fi .ret call rc ⟨tm, hp⟩ k = k .ret ⟨tm, hp⟩ := _root_.id rfl
theorem seqK_normal (next : St → Option R) (st : St) : seqK next k .normal st = next st := _root_.id rfl
theorem seqK_exit (next : St → Option R) (i : Nat) (st : St) : seqK next k (.exit i) st = k (.exit i) st := _root_.id rfl
theorem seqK_ret (next : St → Option R) (st : St) : seqK next k .ret st = k .ret st := _root_.id rfl
theorem blockK_normal (id : Nat) (st : St) : blockK id k .normal st = k .normal st := _root_.id rfl
theorem blockK_ret (id : Nat) (st : St) : blockK id k .ret st = k .ret st := _root_.id rfl
theorem blockK_exit (id i : Nat) (st : St) : blockK id k (.exit i) st = bif Nat.beq i id then k .normal st else k (.exit i) st := by
  show (match Nat.beq i id with | true => k .normal | false => k (.exit i)) st = _
  cases Nat.beq i id <;> rfl
theorem blockK_at (id i : Nat) (st : St) : blockK id k (.exit i) st = if i = id then k .normal st else k (.exit i) st := by
  rw [blockK_exit]
  by_cases h : i = id
  · subst h; simp
  · have : Nat.beq i id = false := by rw [Bool.eq_false_iff]; intro e; exact h (Nat.eq_of_beq_eq_true e)
    rw [this, if_neg h]; exact rfl
theorem run_succ (FT : Fns) (O : Orc) (n : Nat) (c : Code) (st : St) : run T FT O (n + 1) fi c st k = evC T fi c (callF T FT O (run T FT O n)) (run T FT O n) st k := _root_.id rfl
end
end Go.Ev
