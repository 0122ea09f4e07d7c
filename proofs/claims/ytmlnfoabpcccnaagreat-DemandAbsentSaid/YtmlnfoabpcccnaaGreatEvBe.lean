/- The boxed evaluator comes to what the evaluator comes to. -/
import Derived.Test.YtmlnfoabpcccnaaGreatEvBd
set_option linter.all false
namespace Go.Ev

theorem Al.getF_eq {α : Type} : ∀ (t : Al α) (n : Nat), Al.getF t n = Al.get t n
  | [], _ => rfl
  | (k, x) :: r, n => by
    have h : Al.getF ((k, x) :: r) n = Bool.rec (motive := fun _ => Option α) (Al.getF r n) (some x) (Nat.beq k n) := rfl
    rw [h, Al.getF_eq r n]
    simp only [Al.get]
    cases Nat.beq k n <;> rfl

theorem Al.keepF_eq {α : Type} (t : Al α) : ∀ ks : List Nat, Al.keepF t ks = Al.keep t ks
  | [] => rfl
  | k :: r => by
    have h : Al.keepF t (k :: r) = Option.rec (motive := fun _ => Al α) (Al.keepF t r) (fun x => (k, x) :: Al.keepF t r) (Al.getF t k) := rfl
    rw [h, Al.keepF_eq t r, Al.getF_eq]
    simp only [Al.keep]
    cases Al.get t k <;> rfl

theorem getF_eq {α : Type} : ∀ (l : List α) (n : Nat), getF l n = l[n]?
  | [], n => by simp [getF]
  | a :: l, n => by
    have h : getF (a :: l) n = Bool.rec (motive := fun _ => Option α) (getF l (Nat.pred n)) (some a) (Nat.beq n 0) := rfl
    rw [h]
    cases n with
    | zero => rfl
    | succ m => 
      show getF l m = _
      rw [getF_eq l m]; simp

theorem dropF_eq {α : Type} : ∀ (l : List α) (n : Nat), dropF l n = l.drop n
  | [], n => by simp [dropF]
  | a :: l, n => by
    have h : dropF (a :: l) n = Bool.rec (motive := fun _ => List α) (dropF l (Nat.pred n)) (a :: l) (Nat.beq n 0) := rfl
    rw [h]
    cases n with
    | zero => rfl
    | succ m =>
      show dropF l m = _
      rw [dropF_eq l m]; simp

theorem takeF_eq {α : Type} : ∀ (l : List α) (n : Nat), takeF l n = takeN l n
  | [], n => by cases n <;> rfl
  | a :: l, n => by
    have h : takeF (a :: l) n = Bool.rec (motive := fun _ => Option (List α)) (consT a (takeF l (Nat.pred n))) (some []) (Nat.beq n 0) := rfl
    rw [h]
    cases n with
    | zero => rfl
    | succ m =>
      show consT a (takeF l m) = _
      rw [takeF_eq l m]
      simp only [takeN]
      cases takeN l m <;> rfl

theorem lenF_eq {α : Type} : ∀ l : List α, lenF l = l.length
  | [] => rfl
  | _ :: l => congrArg Nat.succ (lenF_eq l)

theorem initF_eq (l : List PV) : initF l = initT 0 l := by
  have : ∀ (l : List PV) (i : Nat), (List.rec (motive := fun _ => Nat → Tm) (fun _ => []) (fun p _ ih i => (i, p) :: ih (Nat.succ i)) l i : Tm) = initT i l := by
    intro l
    induction l with
    | nil => intro i; rfl
    | cons p l ih => intro i; exact congrArg ((i, p) :: ·) (ih (i + 1))
  exact this l 0

theorem consOF_eq (a : Option PV) (r : Option (List PV)) : consOF a r = consO a r := by cases a <;> cases r <;> rfl

theorem opdB_eq (x : Operand) (tm : Tm) : (opdB x).f tm = opd x tm := by
  cases x with
  | tmp t => exact Al.getF_eq tm t
  | const v => simp only [opdB, opd]; cases flat v <;> rfl
  | func f => rfl
  | global _ => rfl

theorem opdsB_eq : ∀ (l : List Operand) (tm : Tm), (opdsB l).f tm = opds l tm
  | [], _ => rfl
  | x :: r, tm => by simp only [opdsB, opds, consOF_eq, opdB_eq, opdsB_eq r tm]

theorem partsB_eq : ∀ (l : List (Nat × Operand)) (tm : Tm), (partsB l).f tm = partsOf l tm
  | [], _ => rfl
  | (i, x) :: r, tm => by simp only [partsB, partsOf, opdB_eq, partsB_eq r tm]

theorem opdOB_eq (o : Option Operand) (tm : Tm) : (opdOB o).f tm = opdO o tm := by
  cases o with
  | none => rfl
  | some x => simp only [opdOB, opdO, opdB_eq]

/-! ### numbers -/
theorem natF_eq {α : Type} (n : Nat) (k : Nat → α) : natF n k = k n := by cases n <;> rfl
theorem intF_eq {α : Type} (n : Int) (k : Int → α) : intF n k = k n := by
  cases n with
  | ofNat m => exact natF_eq m (fun m => k (.ofNat m))
  | negSucc m => exact natF_eq m (fun m => k (.negSucc m))
theorem ikN_eq (k k' : IntKind) : Nat.beq (ikN k) (ikN k') = decide (k = k') := by cases k <;> cases k' <;> rfl
theorem wrapF_eq (k : IntKind) (n : Int) : wrapF k n = wrapq k n := by
  cases k <;> first
    | rfl
    | (cases n with
      | ofNat m => simp only [wrapF, wrapq, ikN]; show _ = _; cases Nat.ble m 9223372036854775807 <;> rfl
      | negSucc m => simp only [wrapF, wrapq, ikN]; show _ = _; cases Nat.ble m 9223372036854775807 <;> rfl)
theorem addF_eq (a b : Int) : addF a b = a + b := by cases a <;> cases b <;> rfl
theorem lebF_eq (a b : Int) : lebF a b = ileb a b := by cases a <;> cases b <;> rfl
theorem eqbF_eq (a b : Int) : eqbF a b = ieqb a b := by cases a <;> cases b <;> rfl
theorem notF_eq (b : Bool) : notF b = !b := by cases b <;> rfl

theorem cmpF_eq {f : Int → Int → Bool} {k k' : IntKind} {a b : Int} : cmpF f k k' a b = match decide (k = k') with | true => some (.v (.bool (f a b))) | false => none := by
  unfold cmpF
  rw [ikN_eq]
  cases decide (k = k') <;> rfl
theorem ariF_eq {f : Int → Int → Int} {k k' : IntKind} {a b : Int} : ariF f k k' a b = match decide (k = k') with | true => some (.v (.int k (wrapq k (f a b)))) | false => none := by
  unfold ariF
  rw [ikN_eq, intF_eq, wrapF_eq]
  cases decide (k = k') <;> rfl

theorem intB_eq (op : BinOp) (k k' : IntKind) (a b : Int) : (intB op).f k k' a b = intOp op k k' a b := by
  cases op <;> first
    | rfl
    | (simp only [intB, intOp, cmpF_eq, ariF_eq, intBin, addF_eq, lebF_eq, eqbF_eq, notF_eq]; cases decide (k = k') <;> rfl)

/-! ### views -/
theorem oInt_some {o : Option PV} {k : IntKind} {n : Int} (h : oInt o = some (k, n)) : o = some (.v (.int k n)) := by
  cases o with
  | none => cases h
  | some p => cases p with
    | v x => cases x <;> first | (cases h; rfl) | cases h
    | _ => cases h
theorem oBool_some {o : Option PV} {b : Bool} (h : oBool o = some b) : o = some (.v (.bool b)) := by
  cases o with
  | none => cases h
  | some p => cases p with
    | v x => cases x <;> first | (cases h; rfl) | cases h
    | _ => cases h

section
variable {R : Type} (T : Types)
theorem pureF_eq (next : Nx R) (hp : Hp) (o : Option PV) : pureF next hp o = match ret1 hp o with | none => none | some (p, h) => next p h := by cases o <;> rfl
theorem primF_eq (next : Nx R) (o : Option (PV × Hp)) : primF next o = match o with | none => none | some (p, h) => next p h := by
  cases o with
  | none => rfl
  | some x => rfl

theorem pickF_eq (next : Nx R) (hp : Hp) (a b c : Option PV) : pickF next hp a b c = match primPick hp a b c with | none => none | some (p, h) => next p h := by
  cases c with
  | none => rfl
  | some p => cases p with
    | v x => cases x with
      | bool y =>
        cases y
        · exact pureF_eq next hp b
        · exact pureF_eq next hp a
      | _ => rfl
    | _ => rfl

theorem binFF_eq (op : BinOp) (t : TypeId) (next : Nx R) (hp : Hp) (x y : Option PV) :
    binFF (primBin T hp op t) (intB op).f next hp x y = match primBin T hp op t x y with | none => none | some (p, h) => next p h := by
  unfold binFF
  cases hx : oInt x with
  | none => exact primF_eq next _
  | some a =>
    cases hy : oInt y with
    | none => exact primF_eq next _
    | some b =>
      obtain ⟨k, n⟩ := a
      obtain ⟨k', m⟩ := b
      rw [oInt_some hx, oInt_some hy]
      show pureF next hp ((intB op).f k k' n m) = _
      rw [intB_eq, pureF_eq]
      rfl

theorem partB_eq (t : TypeId) (cs : List PV) (off : Nat) : (partB T t).f cs off = partOf T t cs off := by
  unfold partB partOf
  cases T.get t with
  | none => rfl
  | some i =>
    simp only []
    cases i.isAgg with
    | false => exact getF_eq cs off
    | true =>
      show aggF (takeF (dropF cs off) i.size) = _
      rw [takeF_eq, dropF_eq]
      unfold cut
      simp only []
      cases takeN (cs.drop off) i.size <;> rfl

theorem loadFF_eq (t : TypeId) (next : Nx R) (hp : Hp) (x : Option PV) : loadFF (partB T t).f next hp x = match primLoad T hp t x with | none => none | some (p, h) => next p h := by
  cases x with
  | none => rfl
  | some p =>
    cases p with
    | ptr id off =>
      show pureF next hp (heldF (partB T t).f off (Al.getF hp.blks id)) = _
      rw [pureF_eq, Al.getF_eq]
      simp only [primLoad, loadAt, Hp.get]
      cases Al.get hp.blks id with
      | none => rfl
      | some b =>
        show (match ret1 hp ((partB T t).f b.cells off) with | none => none | some (p, h) => next p h) = _
        rw [partB_eq]
    | ep cs off =>
      show pureF next hp ((partB T t).f cs off) = _
      rw [pureF_eq, partB_eq]; rfl
    | _ => rfl

theorem fieldAddrB_eq (s : TypeId) (f : Nat) (next : Nx R) (hp : Hp) (x : Option PV) : (fieldAddrB T s f).f next hp x = match primFieldAddr T hp s f x with | none => none | some (p, h) => next p h := by
  unfold fieldAddrB primFieldAddr
  cases fieldOf T s f with
  | none => rfl
  | some a =>
    obtain ⟨off, ft⟩ := a
    simp only []
    cases sizeT T ft with
    | none => rfl
    | some sz =>
      simp only []
      cases Nat.ble 1 sz with
      | false => rfl
      | true =>
        cases x with
        | none => rfl
        | some p => cases p with
          | ptr id o => exact natF_eq (Nat.add o off) (fun r => next (.ptr id r) hp)
          | ep cs o => exact natF_eq (Nat.add o off) (fun r => next (.ep cs r) hp)
          | _ => rfl

theorem fieldB_eq (s : TypeId) (f : Nat) (next : Nx R) (hp : Hp) (x : Option PV) : (fieldB T s f).f next hp x = match primField T hp s f x with | none => none | some (p, h) => next p h := by
  unfold fieldB primField
  cases fieldOf T s f with
  | none => rfl
  | some a =>
    obtain ⟨off, ft⟩ := a
    simp only []
    cases x with
    | none => rfl
    | some p => cases p with
      | agg cs =>
        show pureF next hp ((partB T ft).f cs off) = _
        rw [pureF_eq, partB_eq]
      | _ => rfl

theorem oIx_none {i : Option PV} (h : oIx i = none) : (match i with | some (.v (.int _ (.ofNat n))) => some n | _ => none) = none := by
  cases i with
  | none => rfl
  | some p => cases p with
    | v x => cases x with
      | int k n => cases n with
        | ofNat n => cases h
        | negSucc n => rfl
      | _ => rfl
    | _ => rfl
theorem oIx_some {i : Option PV} {n : Nat} (h : oIx i = some n) : ∃ k, i = some (.v (.int k (.ofNat n))) := by
  cases i with
  | none => cases h
  | some p => cases p with
    | v x => cases x with
      | int k n => cases n with
        | ofNat n => cases h; exact ⟨k, rfl⟩
        | negSucc n => cases h
      | _ => cases h
    | _ => cases h

theorem epF_eq (sz : Nat) (next : Nx R) (hp : Hp) (o : Option (List PV)) :
    epF sz next hp o = match o with | none => none | some e => match Nat.beq e.length sz with | true => next (.ep e 0) hp | false => none := by
  cases o with
  | none => rfl
  | some e =>
    unfold epF
    simp only []
    rw [lenF_eq]
    cases Nat.beq e.length sz <;> rfl

theorem indexAddrB_eq (t : TypeId) (next : Nx R) (hp : Hp) (x i : Option PV) : (indexAddrB T t).f next hp x i = match primIndexAddr T hp t x i with | none => none | some (p, h) => next p h := by
  unfold indexAddrB
  cases ht : T.get t with
  | none => exact primF_eq next _
  | some ti =>
    simp only []
    cases hs : sizeT T ti.elem with
    | none => exact primF_eq next _
    | some sz =>
      simp only []
      cases hk : Nat.beq ti.kind 1 with
      | false => exact primF_eq next _
      | true =>
        show (Option.rec (motive := fun _ => Option R) (primF next (primIndexAddr T hp t x i)) (fun n => idxSlF sz next hp (primF next (primIndexAddr T hp t x i)) (oSv x) n) (oIx i) : Option R) = _
        cases hi : oIx i with
        | none => exact primF_eq next (primIndexAddr T hp t x i)
        | some n =>
          obtain ⟨k, rfl⟩ := oIx_some hi
          have hd := primF_eq next (primIndexAddr T hp t x (some (.v (.int k (.ofNat n)))))
          cases x with
          | none => exact hd
          | some p =>
            show idxSlF sz next hp _ (pSv p) n = _
            cases p with
            | v y => cases y with
              | slice a l c =>
                show idxSlF sz next hp _ (Option.rec (motive := fun _ => Sv) (Bool.rec (motive := fun _ => Sv) .no (Bool.rec (motive := fun _ => Sv) .no .nil (Nat.beq c 0)) (Nat.beq l 0)) (fun _ => .no) a) n = _
                cases a with
                | none => cases Nat.beq l 0 <;> cases Nat.beq c 0 <;> exact hd
                | some _ => exact hd
              | _ => exact hd
            | sl es ex =>
              show epF sz next hp (getF es n) = _
              simp only [primIndexAddr, primIndexAddr0, idxAddr, ht, hs, hk]
              rw [epF_eq, getF_eq]
              simp only [idxSl]
              cases es[n]? with
              | none => rfl
              | some e => simp only []; cases Nat.beq e.length sz <;> rfl
            | row id off len cap rs =>
              show (Bool.rec (motive := fun _ => Option R) none (Bool.rec (motive := fun _ => Option R) none (natF (Nat.add off (Nat.mul n sz)) fun r => next (.ptr id r) hp) (Nat.beq rs sz)) (Nat.ble (Nat.succ n) len) : Option R) = _
              simp only [primIndexAddr, primIndexAddr0, idxAddr, ht, hs, hk]
              simp only [idxSl]
              rw [natF_eq]
              show (Bool.rec (motive := fun _ => Option R) none (Bool.rec (motive := fun _ => Option R) none _ (Nat.beq rs sz)) (Nat.blt n len) : Option R) = _
              cases Nat.blt n len with
              | false => rfl
              | true => simp only []; cases Nat.beq rs sz <;> rfl
            | _ => exact hd

theorem lenB_eq (t : TypeId) (next : Nx R) (hp : Hp) (x : Option PV) : (lenB T t).f next hp x = match primLen T hp t x with | none => none | some (p, h) => next p h := by
  unfold lenB
  cases ht : T.get t with
  | none => exact primF_eq next _
  | some ti =>
    simp only []
    cases hk : Nat.beq ti.kind 1 with
    | false => exact primF_eq next _
    | true =>
      have hd := primF_eq next (primLen T hp t x)
      cases x with
      | none => exact hd
      | some p =>
        show lenFF next hp _ (pSv p) = _
        cases p with
        | v y => cases y with
          | slice a l c =>
            show lenFF next hp _ (Option.rec (motive := fun _ => Sv) (Bool.rec (motive := fun _ => Sv) .no (Bool.rec (motive := fun _ => Sv) .no .nil (Nat.beq c 0)) (Nat.beq l 0)) (fun _ => .no) a) = _
            cases a with
            | some _ => exact hd
            | none =>
              cases l with
              | zero => cases c with
                | zero => simp only [primLen, primLen0, ht, hk]; rfl
                | succ c => exact hd
              | succ l => cases c <;> exact hd
          | _ => exact hd
        | sl es ex =>
          show next (.v (.int .i64 (.ofNat (lenF es)))) hp = _
          simp only [primLen, primLen0, ht, hk]
          rw [lenF_eq]; rfl
        | row id off len cap rs => simp only [primLen, primLen0, ht, hk]; rfl
        | _ => exact hd

theorem builtinB_eq (b : Builtin) (args : List Operand) (ts : List TypeId) (call : CallK R) (tm : Tm) (hp : Hp) (next : Nx R) :
    (builtinB T b args ts).f call tm hp next = match primBuiltin T b args ts hp tm with | none => none | some (p, h) => next p h := by
  cases b with
  | len =>
    rcases args with _ | ⟨x, _ | ⟨y, r⟩⟩ <;> rcases ts with _ | ⟨t, _ | ⟨u, r'⟩⟩ <;> first
      | rfl
      | (simp only [builtinB, primBuiltin, lenB_eq, opdB_eq])
  | append =>
    rcases args with _ | ⟨x, _ | ⟨y, _ | ⟨z, r⟩⟩⟩ <;> rcases ts with _ | ⟨t, _ | ⟨u, _ | ⟨v, r'⟩⟩⟩ <;> first
      | rfl
      | (simp only [builtinB, primBuiltin]
         cases h : Nat.beq t u with
         | true => simp only [primF_eq, opdB_eq]
         | false => simp only [primF_eq, opdB_eq])
  | cap =>
    rcases args with _ | ⟨x, _ | ⟨y, r⟩⟩ <;> rcases ts with _ | ⟨t, _ | ⟨u, r'⟩⟩ <;> first
      | rfl
      | (simp only [builtinB, primBuiltin, primF_eq, opdB_eq])
  | clear =>
    rcases args with _ | ⟨x, _ | ⟨y, r⟩⟩ <;> rcases ts with _ | ⟨t, _ | ⟨u, r'⟩⟩ <;> first
      | rfl
      | (simp only [builtinB, primBuiltin, primF_eq, opdB_eq])
  | copy =>
    rcases args with _ | ⟨x, _ | ⟨y, _ | ⟨z, r⟩⟩⟩ <;> rcases ts with _ | ⟨t, _ | ⟨u, _ | ⟨v, r'⟩⟩⟩ <;> first
      | rfl
      | (simp only [builtinB, primBuiltin]
         cases h : Nat.beq t u with
         | true => simp only [primF_eq, opdB_eq]
         | false => rfl)
  | unsafeSliceData =>
    rcases args with _ | ⟨x, _ | ⟨y, r⟩⟩ <;> first
      | rfl
      | (simp only [builtinB, primBuiltin, primF_eq, opdB_eq])
  | unsafeString =>
    rcases args with _ | ⟨x, _ | ⟨y, _ | ⟨z, r⟩⟩⟩ <;> rcases ts with _ | ⟨t, _ | ⟨u, _ | ⟨v, r'⟩⟩⟩ <;> first
      | rfl
      | (simp only [builtinB, primBuiltin, primF_eq, opdB_eq])
  | min => simp only [builtinB, primBuiltin, primF_eq, opdsB_eq]
  | max => simp only [builtinB, primBuiltin, primF_eq, opdsB_eq]
  | _ => rfl

theorem callL_eq (call : CallK R) (n : Nat) (hp : Hp) (next : Nx R) (o : Option (List PV)) : callL call n hp next o = callK call hp next (some (.clo n [])) o := by
  cases o with
  | none => rfl
  | some l => show call n l hp next = call n (l ++ []) hp next; rw [List.append_nil]

theorem callB_eq (f : Operand) (args : List Operand) (call : CallK R) (tm : Tm) (hp : Hp) (next : Nx R) : (callB f args).f call tm hp next = callK call hp next (opd f tm) (opds args tm) := by
  cases f with
  | func n => simp only [callB, callL_eq, opdsB_eq]; rfl
  | _ => simp only [callB, opdsB_eq, opdB_eq]

/-- what follows an operation that is wanted -/
theorem doB_eq (op : Op) (call : CallK R) (tm : Tm) (hp : Hp) (next : Nx R) : (doB T op).f call tm hp next = evDo call hp (fun _ => next) (enters op tm) (prim T op hp tm) := by
  cases op with
  | call c =>
    obtain ⟨cal, args, ts⟩ := c
    cases cal with
    | value f =>
      simp only [doB, callB_eq, enters]
      unfold callK entersOf evDo
      cases opd f tm with
      | none => rfl
      | some p => cases p with
        | clo n caps => cases opds args.toList tm <;> rfl
        | bnd n first => cases opds args.toList tm <;> rfl
        | _ => rfl
    | builtin b => simp only [doB, builtinB_eq, enters, prim]; rfl
    | invoke _ _ => rfl
  | _ => simp only [doB, pureF_eq, primF_eq, pickF_eq, binFF_eq, loadFF_eq, fieldAddrB_eq, fieldB_eq, indexAddrB_eq, opdB_eq, opdsB_eq, partsB_eq, opdOB_eq, enters, prim, evDo] <;> rfl

theorem wantF_eq (want : Bool) (skip go : Option R) (o : Option PV) : wantF want skip go (oWant o) = match wantOf want o with | none => none | some false => skip | some true => go := by
  cases o with
  | none => rfl
  | some p => cases p with
    | v x => cases x with
      | bool b => cases b <;> cases want <;> rfl
      | _ => rfl
    | _ => rfl

theorem stepR_eq (nt : Nat) (all : List Oper) (o : Oper) (call : CallK R) (tm : Tm) (hp : Hp) (next : Bool → PV → Hp → Option R) :
    (stepR T nt all o).f call tm hp next = evStep T nt all o call ⟨tm, hp⟩ next := by
  unfold stepR evStep
  cases dstOk nt o.dst with
  | false => rfl
  | true =>
    simp only [wantedP]
    cases o.guard with
    | none =>
      simp only [doB_eq]
      unfold evDo
      rfl
    | some g =>
      obtain ⟨j, want⟩ := g
      simp only []
      cases dstAt all j with
      | none => rfl
      | some d =>
        simp only [doB_eq, Al.getF_eq, wantF_eq]
        unfold evDo
        rfl

theorem stepB_eq (nt : Nat) (all : List Oper) (o : Oper) (call : CallK R) (tm : Tm) (hp : Hp) (next : Nx R) :
    (stepB T nt all o).f call tm hp next = evStep T nt all o call ⟨tm, hp⟩ (fun _ => next) := by
  unfold stepB evStep
  cases dstOk nt o.dst with
  | false => rfl
  | true =>
    simp only [wantedP]
    cases o.guard with
    | none => simp only [doB_eq]
    | some g =>
      obtain ⟨j, want⟩ := g
      simp only []
      cases dstAt all j with
      | none => rfl
      | some d => simp only [doB_eq, Al.getF_eq, wantF_eq]; rfl

theorem opsB_eq (nt : Nat) (all : List Oper) : ∀ (ops : List Oper) (call : CallK R) (tm : Tm) (hp : Hp) (k : Tm → Hp → Option R),
    (opsB T nt all ops).f call tm hp k = evOps T nt all ops call ⟨tm, hp⟩ (fun st => k st.tmps st.hp)
  | [], _, _, _, _ => rfl
  | o :: rest, call, tm, hp, k => by
    unfold opsB evOps
    cases hd : o.dst with
    | none =>
      simp only [stepB_eq]
      congr 1
      funext _ p h
      rw [opsB_eq nt all rest]; rfl
    | some d =>
      simp only [stepB_eq]
      congr 1
      funext _ p h
      rw [opsB_eq nt all rest]; rfl

theorem logB_eq (i m : Nat) (op : Op) (lg : Lg) (tm : Tm) (hp h : Hp) (p : PV) (run : Bool) : ranF ((logB T i m op).f lg tm hp h p) lg run = logOf T op i m lg ⟨tm, hp⟩ run h p := by
  cases run with
  | false => rfl
  | true =>
    show (logB T i m op).f lg tm hp h p = _
    cases op with
    | call c =>
      obtain ⟨cal, args, ts⟩ := c
      cases cal with
      | builtin b => cases b <;> rfl
      | _ => rfl
    | load t x =>
      simp only [logB, logOf, opKind, loadArg, opdB_eq]
      first | rfl | (congr 1; done) | (congr 1; cases opd x tm <;> rfl)
    | _ => rfl

theorem logF_eq (lg : Option Lg) (next : Lg → Option R) : logF lg next = logK lg next := by cases lg <;> rfl

theorem opsDB_eq (nt : Nat) (all : List Oper) : ∀ (L : List (Nat × Nat)) (lg : Lg) (call : CallK R) (tm : Tm) (hp : Hp) (k : Tm → Hp → Option R),
    (opsDB T nt all L).f lg call tm hp k = evOpsD T nt all L lg call ⟨tm, hp⟩ (fun st => k st.tmps st.hp)
  | [], _, _, _, _, _ => rfl
  | (i, m) :: L, lg, call, tm, hp, k => by
    unfold opsDB evOpsD
    cases all[i]? with
    | none => rfl
    | some o =>
      simp only []
      cases hd : o.dst with
      | none =>
        simp only [stepR_eq]
        congr 1
        funext run p h
        rw [logB_eq, logF_eq]
        congr 1
        funext lg'
        rw [opsDB_eq nt all L]; rfl
      | some d =>
        simp only [stepR_eq]
        congr 1
        funext run p h
        rw [logB_eq, logF_eq]
        congr 1
        funext lg'
        rw [opsDB_eq nt all L]; rfl

theorem sweptB_eq (kl : Option (List Nat)) (tm : Tm) (hp : Hp) : (sweptB kl).f tm hp = swept kl tm hp := by cases kl <;> rfl
theorem keptB_eq (ks kl : Option (List Nat)) (k : KF R) (st : St) : (keptB ks kl).f k st.tmps st.hp = kept ks kl (fun ex st => k ex st.tmps st.hp) st := by
  cases ks with
  | none => simp only [keptB, kept, sweptB_eq]
  | some l => simp only [keptB, kept, Al.keepF_eq, sweptB_eq]

theorem condF_eq (a b : Option R) (o : Option PV) : condF a b o = match o with | some (.v (.bool true)) => a | some (.v (.bool false)) => b | _ => none := by
  cases o with
  | none => rfl
  | some p => cases p with
    | v x => cases x with
      | bool y => cases y <;> rfl
      | _ => rfl
    | _ => rfl

abbrev KF.of (k : KF R) : Ex → St → Option R := fun ex st => k ex st.tmps st.hp
abbrev RF.of (rc : RF R) : RC R := fun fi c st K => rc fi c st.tmps st.hp (fun ex tm hp => K ex ⟨tm, hp⟩)

theorem seqF_eq (next : Tm → Hp → Option R) (k : KF R) : KF.of (seqF next k) = seqK (fun st => next st.tmps st.hp) (KF.of k) := by
  funext ex st
  cases ex <;> rfl
theorem blockF_eq (id : Nat) (k : KF R) : KF.of (blockF id k) = blockK id (KF.of k) := by
  funext ex st
  cases ex with
  | exit i =>
    show (Bool.rec (motive := fun _ => Tm → Hp → Option R) (k (.exit i)) (k .normal) (Nat.beq i id) : Tm → Hp → Option R) st.tmps st.hp = _
    simp only [blockK]
    cases Nat.beq i id <;> rfl
  | _ => rfl

theorem codeB_eq (fi : FI) : ∀ (c : Code) (call : CallK R) (rc : RF R) (tm : Tm) (hp : Hp) (k : KF R),
    (codeB T fi c).f call rc tm hp k = evC T fi c call (RF.of rc) ⟨tm, hp⟩ (KF.of k) := by
  intro c
  induction c with
  | region id ops draw =>
    intro call rc tm hp k
    simp only [codeB, evC]
    cases draw with
    | false =>
      simp only [opsB_eq]
      congr 1
      funext st
      exact keptB_eq _ _ k st
    | true =>
      simp only []
      cases fi.sched.get id with
      | none => rfl
      | some L =>
        simp only [opsDB_eq]
        congr 1
        funext st
        exact keptB_eq _ _ k st
  | seq a b iha ihb =>
    intro call rc tm hp k
    simp only [codeB, evC, iha, seqF_eq, ihb]
  | cond c x y ihx ihy =>
    intro call rc tm hp k
    simp only [codeB, evC, ihx, ihy, condF_eq, opdB_eq]; rfl
  | block id c ih =>
    intro call rc tm hp k
    simp only [codeB, evC, ih, blockF_eq]
  | loop c ih =>
    intro call rc tm hp k
    simp only [codeB, evC, ih, seqF_eq]
  | _ => intro call rc tm hp k; rfl

theorem resB_eq (fn : Func) (tm : Tm) (hp : Hp) : (resB T fn).f tm hp = resOf T fn ⟨tm, hp⟩ := by
  unfold resB
  split
  · rename_i t ht
    simp only [resOf, ht, resVars, resVar, Al.getF_eq]
    cases Al.get tm t <;> rfl
  · rfl

theorem endF_eq (fn : Func) (k : Nx R) : KF.of (endF (resB T fn).f k) = endK T fn k := by
  funext ex st
  cases ex with
  | exit i => rfl
  | _ =>
    show pureF k st.hp ((resB T fn).f st.tmps st.hp) = _
    rw [resB_eq, pureF_eq]
    simp only [endK]
    show _ = match resOf T fn st with | none => none | some p => k p st.hp
    cases resOf T fn st <;> rfl

theorem bodyB_eq (fi : FI) (rc : RF R) (l : List PV) (hp : Hp) (k : Nx R) : (bodyB T fi).f rc l hp k = bodyF T fi (RF.of rc) l hp k := by
  unfold bodyB bodyF
  cases fi.fn.body with
  | none => rfl
  | some c =>
    simp only []
    rw [lenF_eq, initF_eq]
    cases Nat.ble l.length fi.fn.ntmps with
    | false => rfl
    | true =>
      show rc fi c (initT 0 l) hp (endF (resB T fi.fn).f k) = rc fi c (initT 0 l) hp (fun ex tm hp => endK T fi.fn k ex ⟨tm, hp⟩)
      rw [← endF_eq]

end
/-! ### values that need no freezing -/
theorem wtN (l : List PV) : (PV.rec_1 (motive_1 := fun _ => Nat) (motive_2 := fun _ => Nat) (motive_3 := fun _ => Unit) (fun _ => 1) (fun _ n => Nat.succ n) (fun _ n => Nat.succ n) (fun _ _ _ => 1) (fun _ _ _ _ _ => 1000) (fun _ _ => 1000) (fun _ _ _ => 1000) (fun _ _ _ => 1000) 1 (fun _ => 1) (fun _ => 1) (fun _ => 1000) 1000 (fun _ _ _ => 1000) 1 (fun _ _ a b => Nat.add (Nat.succ a) b) () (fun _ _ _ _ => ()) l : Nat) = wtL l := by
  induction l with
  | nil => rfl
  | cons p l ih => exact congrArg (Nat.add (Nat.succ (wt p))) ih
theorem wt_agg (cs : List PV) : wt (.agg cs) = Nat.succ (wtL cs) := congrArg Nat.succ (wtN cs)
theorem wt_tup (cs : List PV) : wt (.tup cs) = Nat.succ (wtL cs) := congrArg Nat.succ (wtN cs)

mutual
theorem freeze_wt : ∀ (p : PV) (n : Nat) (hp : Hp), wt p < n → wt p ≤ 999 → freeze n hp p = some (p, hp)
  | .v _, 0, _, h, _ => absurd h (Nat.not_lt_zero _)
  | .v _, _ + 1, _, _, _ => rfl
  | .un, 0, _, h, _ => absurd h (Nat.not_lt_zero _)
  | .un, _ + 1, _, _, _ => rfl
  | .sym _, 0, _, h, _ => absurd h (Nat.not_lt_zero _)
  | .sym _, _ + 1, _, _, _ => rfl
  | .unk _, 0, _, h, _ => absurd h (Nat.not_lt_zero _)
  | .unk _, _ + 1, _, _, _ => rfl
  | .sl _ _, 0, _, h, _ => absurd h (Nat.not_lt_zero _)
  | .sl _ _, _ + 1, _, _, _ => rfl
  | .agg _, 0, _, h, _ => absurd h (Nat.not_lt_zero _)
  | .agg cs, n + 1, hp, h, h' => by
    have e : wt (.agg cs) = Nat.succ (wtL cs) := wt_agg cs
    rw [e] at h h'
    simp only [freeze, freezeL_wt cs n hp (by omega) (by omega)]
  | .tup _, 0, _, h, _ => absurd h (Nat.not_lt_zero _)
  | .tup cs, n + 1, hp, h, h' => by
    have e : wt (.tup cs) = Nat.succ (wtL cs) := wt_tup cs
    rw [e] at h h'
    simp only [freeze, freezeL_wt cs n hp (by omega) (by omega)]
  | .row _ _ _ _ _, _, _, _, h => by exact absurd h (by show ¬ (1000 ≤ 999); omega)
  | .ptr _ _, _, _, _, h => by exact absurd h (by show ¬ (1000 ≤ 999); omega)
  | .ep _ _, _, _, _, h => by exact absurd h (by show ¬ (1000 ≤ 999); omega)
  | .clo _ _, _, _, _, h => by exact absurd h (by show ¬ (1000 ≤ 999); omega)
  | .bnd _ _, _, _, _, h => by exact absurd h (by show ¬ (1000 ≤ 999); omega)
  | .mp _, _, _, _, h => by exact absurd h (by show ¬ (1000 ≤ 999); omega)
  | .top, _, _, _, h => by exact absurd h (by show ¬ (1000 ≤ 999); omega)
theorem freezeL_wt : ∀ (l : List PV) (n : Nat) (hp : Hp), wtL l < n → wtL l ≤ 999 → freezeL n hp l = some (l, hp)
  | [], 0, _, h, _ => absurd h (Nat.not_lt_zero _)
  | [], _ + 1, _, _, _ => rfl
  | _ :: _, 0, _, h, _ => absurd h (Nat.not_lt_zero _)
  | p :: l, n + 1, hp, h, h' => by
    have e : wtL (p :: l) = Nat.succ (wt p) + wtL l := rfl
    rw [e] at h h'
    simp only [freezeL, freeze_wt p n hp (by omega) (by omega), freezeL_wt l n hp (by omega) (by omega)]
end

theorem frzL_eq (hp : Hp) (l : List PV) : frzL hp l = freezeL deepN hp l := by
  unfold frzL
  cases h : Nat.ble (wtL l) 999 with
  | false => rfl
  | true =>
    have h := Nat.le_of_ble_eq_true h
    exact (freezeL_wt l deepN hp (by unfold deepN; omega) h).symm

theorem frz_eq (hp : Hp) (p : PV) : frz hp p = freeze deepN hp p := by
  unfold frz
  cases h : Nat.ble (wt p) 999 with
  | false => rfl
  | true =>
    have h := Nat.le_of_ble_eq_true h
    exact (freeze_wt p deepN hp (by unfold deepN; omega) h).symm

section
variable {R : Type} (T : Types)
theorem dataKF_eq (k : Nx R) (hp1 : Hp) : dataKF k hp1 = dataK k hp1 := by
  funext p h
  unfold dataKF dataK
  rw [frz_eq]
  cases freeze deepN h p <;> rfl

theorem ownB_eq (fi : FI) (rc : RF R) (l : List PV) (hp : Hp) (k : Nx R) : (ownB T fi).f rc l hp k = ownF T fi (RF.of rc) l hp k := by
  unfold ownB ownF
  cases fi.frz with
  | false => exact bodyB_eq T fi rc l hp k
  | true =>
    show (bodyB T fi).f rc l hp (frzKF k) = bodyF T fi (RF.of rc) l hp (frzK k)
    rw [bodyB_eq]
    congr 1
    funext p h
    unfold frzKF frzK
    rw [frz_eq]
    cases freeze deepN h p <;> rfl

theorem calleeB_eq (FT : Fns) (O : Orc) (f : Nat) (rc : RF R) : (calleeB T FT O f).f rc = callF T FT O (RF.of rc) f := by
  unfold calleeB callF
  cases FT.get f with
  | none =>
    funext l hp k
    have : (frzL : Hp → List PV → Option (List PV × Hp)) = freezeL deepN := by funext hp l; exact frzL_eq hp l
    simp only [this]
  | some fi =>
    simp only []
    cases fi.data with
    | false =>
      cases fi.mix with
      | false =>
        simp only []
        cases fi.fn.body with
        | some _ => funext l hp k; exact ownB_eq T fi rc l hp k
        | none => rfl
      | true =>
        funext l hp k
        simp only [frzL_eq, ownB_eq]
        cases l.any headUnk <;> rfl
    | true =>
      funext l hp k
      simp only [frzL_eq, callD]
      cases freezeL deepN hp l with
      | none => rfl
      | some x =>
        show (bodyB T fi).f rc x.1 ⟨[], 0, []⟩ (dataKF k x.2) = _
        rw [bodyB_eq, dataKF_eq]

theorem runF_eq (FT : Fns) (O : Orc) : ∀ n, RF.of (runF (R := R) T FT O n) = run T FT O n
  | 0 => rfl
  | n + 1 => by
    funext fi c st K
    show (codeB T fi c).f (fun f => (calleeB T FT O f).f (runF T FT O n)) (runF T FT O n) st.tmps st.hp (fun ex tm hp => K ex ⟨tm, hp⟩) = _
    rw [codeB_eq, runF_eq FT O n]
    simp only [run]
    congr 1
    funext f
    rw [calleeB_eq, runF_eq FT O n]

theorem comesF_eq (FT : Fns) (B : Book) (n : Nat) (fi : FI) (ds : List PV) (q : PV) : comesF T FT B n fi ds q = comes T FT B n fi ds q := by
  unfold comesF comes
  have h : dataF ((bodyB (R := PV) T fi).f (runF T FT (ask B) n)) (fun p _ => some p) (some (ds, ⟨[], 0, []⟩)) = callD (R := PV) T fi (run T FT (ask B) n) (fun p _ => some p) (some (ds, ⟨[], 0, []⟩)) := by
    show (bodyB T fi).f (runF T FT (ask B) n) ds ⟨[], 0, []⟩ (dataKF _ ⟨[], 0, []⟩) = _
    rw [bodyB_eq, dataKF_eq, runF_eq]
    rfl
  rw [h] <;> rfl
end

theorem known_ofF [Env] {P : Program} {T : Types} (hT : TOk P T) (hm : P.follows .mixedOrders = true) {FT : Fns} (hF : FTOk P FT) {B : Book} (hB : BookOk P B) {f : Nat} {fi : FI} (hf : FIOk P f fi) {n : Nat} {ds : List PV} {q : PV}
    (h : comesF T FT B n fi ds q = true) : Known P f ds q :=
  known_of hT hm hF hB hf ((comesF_eq T FT B n fi ds q).symm.trans h)

theorem comesSF_eq (T : Types) (FT : Fns) (B : Book) (n : Nat) (fi : FI) (ty : Nat) (cs ds : List PV) (q : PV) (cs' : List PV) : comesSF T FT B n fi ty cs ds q cs' = comesS T FT B n fi ty cs ds q cs' := by
  unfold comesSF comesS
  rw [bodyB_eq, runF_eq] <;> rfl
theorem knownS_ofF [Env] {P : Program} {T : Types} (hT : TOk P T) (hm : P.follows .mixedOrders = true) {FT : Fns} (hF : FTOk P FT) {B : Book} (hB : BookOk P B) {f : Nat} {fi : FI} (hf : FIOk P f fi) {n ty : Nat} {cs ds : List PV} {q : PV} {cs' : List PV}
    (h : comesSF T FT B n fi ty cs ds q cs' = true) : KnownS P f ty cs ds q cs' :=
  knownS_of hT hm hF hB hf ((comesSF_eq T FT B n fi ty cs ds q cs').symm.trans h)
end Go.Ev
