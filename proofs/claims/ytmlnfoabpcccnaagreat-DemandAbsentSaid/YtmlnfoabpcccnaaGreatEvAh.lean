/- The evaluator goes on in one way: its continuation is met once, with what doesn't hang on it, or never. -/
import Derived.Test.YtmlnfoabpcccnaaGreatEvAa
import Derived.Test.YtmlnfoabpcccnaaGreatEvAg
import Derived.Tactics
set_option linter.all false
/- The evaluator goes on in one way: its continuation is met once, with what doesn't hang on it, or never. -/
namespace Go.Ev
section
variable {R : Type} {T : Types}

def Uni {A R : Type} (x : (A → Option R) → Option R) : Prop := (∀ k, x k = none) ∨ ∃ a, ∀ k, x k = k a
def Uni2 {A B R : Type} (x : (A → B → Option R) → Option R) : Prop := (∀ k, x k = none) ∨ ∃ a b, ∀ k, x k = k a b
def Uni3 {A B C R : Type} (x : (A → B → C → Option R) → Option R) : Prop := (∀ k, x k = none) ∨ ∃ a b c, ∀ k, x k = k a b c

def UniCall (call : CallK R) : Prop := ∀ f l hp, Uni2 (call f l hp)
def UniRC (rc : RC R) : Prop := ∀ fi c st, Uni2 (rc fi c st)

theorem evDo_uni {call : CallK R} (hc : UniCall call) (hp : Hp) (e : Option (Option (Nat × List PV))) (p : Option (PV × Hp)) : Uni3 fun next => evDo call hp next e p := by
  cases e with
  | none => exact .inl fun _ => rfl
  | some e =>
    cases e with
    | none =>
      cases p with
      | none => exact .inl fun _ => rfl
      | some p => exact .inr ⟨true, p.1, p.2, fun _ => rfl⟩
    | some fl =>
      rcases hc fl.1 fl.2 hp with h | ⟨p, h', h⟩
      · exact .inl fun _ => h _
      · exact .inr ⟨true, p, h', fun _ => h _⟩

theorem evStep_uni {call : CallK R} (hc : UniCall call) (nt : Nat) (all : List Oper) (o : Oper) (st : St) : Uni3 fun next => evStep T nt all o call st next := by
  unfold evStep
  cases dstOk nt o.dst with
  | false => exact .inl fun _ => rfl
  | true =>
    simp only []
    cases wantedP all o st.tmps with
    | none => exact .inl fun _ => rfl
    | some b =>
      cases b with
      | false => exact .inr ⟨_, _, _, fun _ => rfl⟩
      | true => exact evDo_uni hc _ _ _

theorem evOps_uni {call : CallK R} (hc : UniCall call) (nt : Nat) (all : List Oper) : ∀ (ops : List Oper) (st : St), Uni fun k => evOps T nt all ops call st k
  | [], st => .inr ⟨st, fun _ => rfl⟩
  | o :: rest, st => by
    unfold evOps
    rcases evStep_uni (T := T) hc nt all o st with h | ⟨b, p, h', h⟩
    · exact .inl fun _ => h _
    · rcases evOps_uni hc nt all rest ⟨putT st.tmps o.dst p, h'⟩ with g | ⟨s, g⟩
      · exact .inl fun k => by rw [h]; exact g k
      · exact .inr ⟨s, fun k => by rw [h]; exact g k⟩

theorem evOpsD_uni {call : CallK R} (hc : UniCall call) (nt : Nat) (all : List Oper) : ∀ (L : List (Nat × Nat)) (lg : Lg) (st : St), Uni fun k => evOpsD T nt all L lg call st k
  | [], _, st => .inr ⟨st, fun _ => rfl⟩
  | (i, m) :: L, lg, st => by
    unfold evOpsD
    cases all[i]? with
    | none => exact .inl fun _ => rfl
    | some o =>
      simp only []
      rcases evStep_uni (T := T) hc nt all o st with h | ⟨b, p, h', h⟩
      · exact .inl fun _ => h _
      · cases hl : logOf T o.op i m lg st b h' p with
        | none => exact .inl fun k => by rw [h, hl]; rfl
        | some lg' =>
          rcases evOpsD_uni hc nt all L lg' ⟨putT st.tmps o.dst p, h'⟩ with g | ⟨s, g⟩
          · exact .inl fun k => by rw [h, hl]; exact g k
          · exact .inr ⟨s, fun k => by rw [h, hl]; exact g k⟩

theorem Uni.kept {x : (St → Option R) → Option R} (h : Uni x) (ks kl : Option (List Nat)) : Uni2 fun (k : Ex → St → Option R) => x (kept ks kl k) := by
  rcases h with h | ⟨s, h⟩
  · exact .inl fun _ => h _
  · cases ks with
    | none => exact .inr ⟨.normal, ⟨s.tmps, swept kl s.tmps s.hp⟩, fun k => h _⟩
    | some ks => exact .inr ⟨.normal, ⟨Al.keep s.tmps ks, swept kl s.tmps s.hp⟩, fun k => h _⟩

theorem evC_uni {call : CallK R} (hc : UniCall call) {rc : RC R} (hr : UniRC rc) (fi : FI) : ∀ (c : Code) (st : St), Uni2 fun k => evC T fi c call rc st k
  | .skip, st => .inr ⟨.normal, st, fun _ => rfl⟩
  | .region id ops draw, st => by
    unfold evC
    cases draw with
    | false => exact (evOps_uni hc _ _ _ _).kept _ _
    | true =>
      simp only []
      cases fi.sched.get id with
      | none => exact .inl fun _ => rfl
      | some L => exact (evOpsD_uni hc _ _ _ _ _).kept _ _
  | .seq a b, st => by
    unfold evC
    rcases evC_uni hc hr fi a st with h | ⟨e, s, h⟩
    · exact .inl fun _ => h _
    · cases e with
      | normal =>
        rcases evC_uni hc hr fi b s with g | ⟨e', s', g⟩
        · exact .inl fun k => by rw [h]; exact g k
        · exact .inr ⟨e', s', fun k => by rw [h]; exact g k⟩
      | exit i => exact .inr ⟨.exit i, s, fun k => by rw [h]; rfl⟩
      | ret => exact .inr ⟨.ret, s, fun k => by rw [h]; rfl⟩
  | .cond c x y, st => by
    unfold evC
    split
    · exact evC_uni hc hr fi x st
    · exact evC_uni hc hr fi y st
    · exact .inl fun _ => rfl
  | .block id c, st => by
    unfold evC
    rcases evC_uni hc hr fi c st with h | ⟨e, s, h⟩
    · exact .inl fun _ => h _
    · cases e with
      | normal => exact .inr ⟨.normal, s, fun k => by rw [h]; rfl⟩
      | exit i =>
        cases hi : Nat.beq i id with
        | true => exact .inr ⟨.normal, s, fun k => by rw [h]; simp [blockK, hi]⟩
        | false => exact .inr ⟨.exit i, s, fun k => by rw [h]; simp [blockK, hi]⟩
      | ret => exact .inr ⟨.ret, s, fun k => by rw [h]; rfl⟩
  | .loop c, st => by
    unfold evC
    rcases evC_uni hc hr fi c st with h | ⟨e, s, h⟩
    · exact .inl fun _ => h _
    · cases e with
      | normal =>
        rcases hr fi (.loop c) s with g | ⟨e', s', g⟩
        · exact .inl fun k => by rw [h]; exact g k
        · exact .inr ⟨e', s', fun k => by rw [h]; exact g k⟩
      | exit i => exact .inr ⟨.exit i, s, fun k => by rw [h]; rfl⟩
      | ret => exact .inr ⟨.ret, s, fun k => by rw [h]; rfl⟩
  | .exit id, st => .inr ⟨.exit id, st, fun _ => rfl⟩
  | .ret, st => .inr ⟨.ret, st, fun _ => rfl⟩
  | .scope _, _ => .inl fun _ => rfl
  | .rangeFunc .., _ => .inl fun _ => rfl
  | .label _, _ => .inl fun _ => rfl
  | .goto _, _ => .inl fun _ => rfl
  | .refuse _, _ => .inl fun _ => rfl

theorem endK_uni {fn : Func} {x : (Ex → St → Option R) → Option R} (h : Uni2 x) : Uni2 fun k => x (endK T fn k) := by
  rcases h with h | ⟨e, s, h⟩
  · exact .inl fun _ => h _
  · cases e with
    | exit i => exact .inl fun k => by show x _ = _; rw [h]; rfl
    | normal =>
      cases hr : resOf T fn s with
      | none => exact .inl fun k => by show x _ = _; rw [h]; simp [endK, hr]
      | some p => exact .inr ⟨p, s.hp, fun k => by show x _ = _; rw [h]; simp [endK, hr]⟩
    | ret =>
      cases hr : resOf T fn s with
      | none => exact .inl fun k => by show x _ = _; rw [h]; simp [endK, hr]
      | some p => exact .inr ⟨p, s.hp, fun k => by show x _ = _; rw [h]; simp [endK, hr]⟩

theorem bodyF_uni {rc : RC R} (hr : UniRC rc) (fi : FI) (l : List PV) (hp : Hp) : Uni2 fun k => bodyF T fi rc l hp k := by
  unfold bodyF
  cases fi.fn.body with
  | none => exact .inl fun _ => rfl
  | some c =>
    simp only []
    cases Nat.ble l.length fi.fn.ntmps with
    | false => exact .inl fun _ => rfl
    | true => exact endK_uni (hr _ _ _)

theorem ownF_uni {rc : RC R} (hr : UniRC rc) (fi : FI) (l : List PV) (hp : Hp) : Uni2 fun k => ownF T fi rc l hp k := by
  unfold ownF
  cases fi.frz with
  | false => exact bodyF_uni hr fi l hp
  | true =>
    simp only []
    rcases bodyF_uni (T := T) hr fi l hp with h | ⟨p, h', h⟩
    · exact .inl fun k => h _
    · cases hf : freeze deepN h' p with
      | none => exact .inl fun k => by rw [h]; simp [frzK, hf]
      | some q => exact .inr ⟨q.1, q.2, fun k => by rw [h]; simp [frzK, hf]⟩

theorem callO_uni (O : Orc) (f : Nat) (x : Option (List PV × Hp)) : Uni2 (fun k : PV → Hp → Option R => callO O f k x) := by
  unfold callO
  cases x with
  | none => exact .inl fun _ => rfl
  | some d =>
    simp only []
    cases O f d.1 with
    | none => exact .inl fun _ => rfl
    | some q => exact .inr ⟨q, d.2, fun _ => rfl⟩

theorem callA_uni (O : Orc) (f : Nat) (fz : Hp → List PV → Option (List PV × Hp)) (l : List PV) (hp : Hp) : Uni2 (fun k : PV → Hp → Option R => callA O f fz l hp k) := by
  unfold callA
  split
  · split
    · unfold callS
      cases fz hp _ with
      | none => exact .inl fun _ => rfl
      | some d =>
        simp only []
        cases d.2.get _ with
        | none => exact .inl fun _ => rfl
        | some b =>
          simp only []
          cases stOk b with
          | false =>
            simp only []
            cases headPtr b.cells with
            | none => exact .inl fun _ => rfl
            | some jr =>
              simp only []
              unfold callW
              cases d.2.get jr.1 with
              | none => exact .inl fun _ => rfl
              | some b1 =>
                simp only []
                split
                · exact .inl fun _ => rfl
                · unfold wAns
                  split
                  · split
                    · exact .inr ⟨_, _, fun _ => rfl⟩
                    · exact .inl fun _ => rfl
                  · exact .inl fun _ => rfl
          | true =>
            simp only []
            unfold stAns
            split
            · split
              · exact .inr ⟨_, _, fun _ => rfl⟩
              · exact .inl fun _ => rfl
            · exact .inl fun _ => rfl
    · exact .inl fun _ => rfl
  · exact callO_uni O f _

theorem callF_uni {rc : RC R} (hr : UniRC rc) (FT : Fns) (O : Orc) : UniCall (callF T FT O rc) := by
  intro f l hp
  unfold callF
  cases FT.get f with
  | none => exact callA_uni O f _ l hp
  | some fi =>
    simp only []
    cases fi.data with
    | false =>
      simp only []
      cases fi.mix with
      | false =>
        simp only []
        cases fi.fn.body with
        | some _ => exact ownF_uni hr fi l hp
        | none =>
          simp only []
          unfold noBody
          cases fi.frz with
          | false =>
            simp only []
            unfold extF
            split
            · exact .inr ⟨_, hp, fun _ => rfl⟩
            · exact .inl fun _ => rfl
          | true =>
            simp only []
            unfold cmpTxt
            split
            · exact .inr ⟨_, hp, fun _ => rfl⟩
            · exact .inl fun _ => rfl
      | true =>
        simp only []
        cases l.any headUnk with
        | false => exact ownF_uni hr fi l hp
        | true => exact callO_uni O f _
    | true =>
      simp only []
      unfold callD
      cases freezeL deepN hp l with
      | none => exact .inl fun _ => rfl
      | some d =>
        simp only []
        rcases bodyF_uni (T := T) hr fi d.1 ⟨[], 0, []⟩ with h | ⟨p, h', h⟩
        · exact .inl fun k => h _
        · cases hf : freeze deepN h' p with
          | none => exact .inl fun k => by rw [h]; simp [dataK, hf]
          | some q => exact .inr ⟨q.1, d.2, fun k => by rw [h]; simp [dataK, hf]⟩

theorem run_uni (FT : Fns) (O : Orc) : ∀ n, UniRC (run (R := R) T FT O n)
  | 0 => fun _ _ _ => .inl fun _ => rfl
  | n + 1 => fun fi c st => evC_uni (callF_uni (run_uni FT O n) FT O) (run_uni FT O n) fi c st
end
end Go.Ev

/- One operation of a region, as the evaluator takes it and as the code does; regions in the text's order. -/
namespace Go.Ev
variable [Env]
section
variable {P : Program} {T : Types} {w : World} {F : Fz} {M : Mp} {hp : Hp} {R : Type}

theorem Uni3.eq_of {A B C : Type} {a a' : A} {b b' : B} {c c' : C} (r : R) (h : ∀ k : A → B → C → Option R, k a b c = k a' b' c') : a = a' ∧ b = b' ∧ c = c' := by
  classical
  have := h fun x y z => if x = a ∧ y = b ∧ z = c then some r else none
  simp only [and_self, if_true] at this
  split at this
  · rename_i hh; exact ⟨hh.1.symm, hh.2.1.symm, hh.2.2.symm⟩
  · cases this

theorem Uni2.eq_of {A B : Type} {a a' : A} {b b' : B} (r : R) (h : ∀ k : A → B → Option R, k a b = k a' b') : a = a' ∧ b = b' := by
  classical
  have := h fun x y => if x = a ∧ y = b then some r else none
  simp only [and_self, if_true] at this
  split at this
  · rename_i hh; exact ⟨hh.1.symm, hh.2.symm⟩
  · cases this

theorem Uni.eq_of {A : Type} {a a' : A} (r : R) (h : ∀ k : A → Option R, k a = k a') : a = a' := by
  classical
  have := h fun x => if x = a then some r else none
  simp only [if_true] at this
  split at this
  · rename_i hh; exact hh.symm
  · cases this

/-- a function that is entered when it is called -/
def Enters (P : Program) (f : FuncId) : Prop := ∃ fn, P.funcs[f]? = some fn ∧ (fn.name == "runtime.NumGoroutine") = false ∧ fn.body.isNone = false

/-- values stand for values -/
def VRs (w : World) (F : Fz) (M : Mp) (l : List PV) (ys : List Value) : Prop :=
  ys.length = l.length ∧ ∀ (i : Nat) c y, l[i]? = some c → ys[i]? = some y → VR w F M c y

/-- what a call comes to -/
def CallPost (w : World) (F : Fz) (M : Mp) (p : PV) (h : Hp) : Ending → World → Prop := fun e w' =>
  ∃ v F' M', e = .returned v ∧ VR w' F' M' p v ∧ HS h w' F' M' ∧ Ext w w' F F' M M'

/-- a function is entered, or the model answers by itself -/
def Goes (P : Program) (f : FuncId) (args : Array Value) (w : World) (K : Ending → World → Prop) : Prop :=
  (Enters P f ∧ Calls P f args w K) ∨ ∃ v w', (callFunc f args).run P w = .ok (.value v) w' ∧ K (.returned v) w'

theorem callFunc_enters {f : FuncId} (h : Enters P f) (args : Array Value) (w : World) : (callFunc f args).run P w = .ok (.enter f args) w := by
  obtain ⟨fn, k1, k2, k3⟩ := h
  have k2' : ¬ (fn.name = "runtime.NumGoroutine") := by simpa using k2
  have k3' : ¬ (fn.body = none) := by intro h; rw [h] at k3; cases k3
  simp [callFunc, k1, k2', k3']

def SoundCall (P : Program) (call : CallK R) : Prop := ∀ f l hp p h, (∀ k, call f l hp k = k p h) →
  ∀ (w : World) (F : Fz) (M : Mp) (args : Array Value), HS hp w F M → VRs w F M l args.toList → Goes P f args w (CallPost w F M p h)

theorem evStep_inv (r : R) {call : CallK R} (hu : UniCall call) {nt : Nat} {all : List Oper} {o : Oper} {st : St} {b : Bool} {p : PV} {h : Hp}
    (e : ∀ next, evStep T nt all o call st next = next b p h) :
    dstOk nt o.dst = true ∧ wantedP all o st.tmps = some b ∧ ((b = false ∧ p = .un ∧ h = st.hp) ∨ (b = true ∧ ((enters o.op st.tmps = some none ∧ prim T o.op st.hp st.tmps = some (p, h)) ∨
      ∃ f l, enters o.op st.tmps = some (some (f, l)) ∧ ∀ k, call f l st.hp k = k p h))) := by
  have bad : (none : Option R) = some r → False := fun h => by cases h
  unfold evStep at e
  cases hd : dstOk nt o.dst with
  | false => simp only [hd] at e; exact (bad (e fun _ _ _ => some r)).elim
  | true =>
    simp only [hd] at e
    refine ⟨rfl, ?_⟩
    cases hw : wantedP all o st.tmps with
    | none => simp only [hw] at e; exact (bad (e fun _ _ _ => some r)).elim
    | some c =>
      simp only [hw] at e
      cases c with
      | false =>
        obtain ⟨h1, h2, h3⟩ := Uni3.eq_of r e
        subst h1; subst h2; subst h3
        exact ⟨rfl, .inl ⟨rfl, rfl, rfl⟩⟩
      | true =>
        simp only [] at e
        unfold evDo at e
        cases he : enters o.op st.tmps with
        | none => simp only [he] at e; exact (bad (e fun _ _ _ => some r)).elim
        | some q =>
          cases q with
          | none =>
            simp only [he] at e
            cases hp : prim T o.op st.hp st.tmps with
            | none => simp only [hp] at e; exact (bad (e fun _ _ _ => some r)).elim
            | some ph =>
              simp only [hp] at e
              obtain ⟨h1, h2, h3⟩ := Uni3.eq_of r e
              subst h1; subst h2; subst h3
              exact ⟨rfl, .inr ⟨rfl, .inl ⟨rfl, rfl⟩⟩⟩
          | some fl =>
            simp only [he] at e
            rcases hu fl.1 fl.2 st.hp with g | ⟨p', h', g⟩
            · have := e fun _ _ _ => some r
              rw [g] at this
              exact (bad this).elim
            · have e' : ∀ next : Bool → PV → Hp → Option R, next true p' h' = next b p h := fun next => by rw [← e next, g]
              obtain ⟨h1, h2, h3⟩ := Uni3.eq_of r e'
              subst h1; subst h2; subst h3
              exact ⟨rfl, .inr ⟨rfl, .inr ⟨fl.1, fl.2, rfl, g⟩⟩⟩

theorem wantedP_sound {ops : Array Oper} {tm : Tm} {a : Act} (ht : TS tm a w F M) {o : Oper} {b : Bool} (e : wantedP ops.toList o tm = some b) : Region.wanted o (yielded ops a.tmps) = b := by
  unfold wantedP at e
  unfold Region.wanted
  cases hg : o.guard with
  | none => simp only [hg] at e; cases e; rfl
  | some jw =>
    obtain ⟨j, want⟩ := jw
    simp only [hg] at e
    simp only []
    unfold dstAt at e
    cases ho : ops.toList[j]? with
    | none => simp [ho] at e
    | some g =>
      simp only [ho] at e
      cases hd : g.dst with
      | none => simp [hd] at e
      | some d =>
        simp only [hd] at e
        have ho' : ops[j]? = some g := by simpa using ho
        cases hp : Al.get tm d with
        | none => simp [hp, wantOf] at e
        | some p =>
          obtain ⟨hlt, hv⟩ := ht d p hp
          have hget : a.tmps[d]? = some (a.tmps.getD d undef) := by simp [hlt]
          simp only [yielded, ho', Option.bind_some, hd, hget]
          rw [hp] at e
          unfold wantOf at e
          split at e
          · rename_i c heq
            cases heq
            cases e
            generalize a.tmps.getD d undef = v at hv
            cases hv
            simp only [Bool.beq_eq_decide_eq]
            cases c <;> cases want <;> rfl
          · rename_i heq
            cases heq
            cases e
            generalize a.tmps.getD d undef = v at hv
            cases hv
            rfl
          · cases e

theorem put_size (a : Act) (dst : Option Nat) (v : Value) : (a.put dst v).tmps.size = a.tmps.size := by
  cases dst <;> simp [Act.put]
theorem put_defers (a : Act) (dst : Option Nat) (v : Value) : (a.put dst v).defers = a.defers := by
  cases dst <;> rfl

theorem TS.put {tm : Tm} {a : Act} (ht : TS tm a w F M) {dst : Option Nat} {nt : Nat} (hn : a.tmps.size = nt) (hd : dstOk nt dst = true) {p : PV} {v : Value} (hv : VR w F M p v) : TS (putT tm dst p) (a.put dst v) w F M := by
  cases dst with
  | none => exact ht
  | some d =>
    have hlt : d < a.tmps.size := by
      have := Nat.le_of_ble_eq_true hd
      omega
    intro t q hq
    simp only [putT, Al.get_cons] at hq
    simp only [Act.put, Array.size_setIfInBounds]
    by_cases h : d = t
    · subst h
      rw [if_pos rfl] at hq; cases hq
      exact ⟨hlt, by simpa [hlt] using hv⟩
    · rw [if_neg h] at hq
      obtain ⟨h1, h2⟩ := ht t q hq
      refine ⟨h1, ?_⟩
      have : (a.tmps.setIfInBounds d v).getD t undef = a.tmps.getD t undef := by
        simp [Array.getElem?_setIfInBounds_ne h]
      rw [this]; exact h2

/-- the callee that an operation enters -/
theorem enters_run {tm : Tm} {a : Act} (ht : TS tm a w F M) {o : Oper} {f : Nat} {l : List PV} (e : enters o.op tm = some (some (f, l))) :
    ∃ args : Array Value, VRs w F M l args.toList ∧ ∀ w', (execOp a.eval o).run P w' = (callFunc f args).run P w' := by
  obtain ⟨dst, op, type, pos, after, guard⟩ := o
  cases op <;> simp only [enters] at e <;> try (cases e; done)
  rename_i c
  obtain ⟨callee, args, ats⟩ := c
  cases callee <;> simp only [] at e <;> try (cases e; done)
  rename_i fo
  unfold entersOf at e
  split at e <;> try (cases e; done)
  all_goals rename_i n caps hfo
  case h_2 =>
    split at e
    · cases e
    · rename_i ls hls
      cases e
      have hv := ht.opd hfo
      obtain ⟨h1, h2⟩ := ht.opds hls
      generalize hfv : a.eval fo = fv at hv
      cases hv with
      | bnd g1 g2 =>
        rename_i ys
        refine ⟨ys.toArray ++ args.map a.eval, ⟨by simp at h1 ⊢; omega, ?_⟩, ?_⟩
        · intro i c y hc hy
          simp only [Array.toList_append, Array.toList_map] at hy
          rcases Nat.lt_or_ge i caps.length with hi | hi
          · rw [List.getElem?_append_left hi] at hc
            rw [List.getElem?_append_left (by omega)] at hy
            exact g2 i c y hc hy
          · rw [List.getElem?_append_right hi] at hc
            rw [List.getElem?_append_right (by omega)] at hy
            rw [g1] at hy
            exact h2 _ c y hc hy
        · intro w'
          simp [execOp, resolve, hfv, Deferred.ofValue, invoke]
  split at e
  · cases e
  · rename_i ls hls
    cases e
    have hv := ht.opd hfo
    obtain ⟨h1, h2⟩ := ht.opds hls
    generalize hfv : a.eval fo = fv at hv
    cases hv with
    | clo g1 g2 =>
      rename_i ys
      refine ⟨args.map a.eval ++ ys.toArray, ⟨by simp at h1 ⊢; omega, ?_⟩, ?_⟩
      · intro i c y hc hy
        simp only [Array.toList_append, Array.toList_map] at hy
        rcases Nat.lt_or_ge i ls.length with hi | hi
        · rw [List.getElem?_append_left hi] at hc
          rw [List.getElem?_append_left (by omega)] at hy
          exact h2 i c y hc hy
        · rw [List.getElem?_append_right hi] at hc
          rw [List.getElem?_append_right (by omega)] at hy
          rw [h1] at hy
          exact g2 _ c y hc hy
      · intro w'
        simp [execOp, resolve, hfv, Deferred.ofValue, invoke]

/-- one operation -/
theorem evStep_sound (r : R) (hT : TOk P T) {call : CallK R} (hu : UniCall call) (hc : SoundCall P call) {nt : Nat} {ops : Array Oper} {o : Oper} {st : St} {b : Bool} {p : PV} {h : Hp}
    (e : ∀ next, evStep T nt ops.toList o call st next = next b p h) {a : Act} (ht : TS st.tmps a w F M) (hs : HS st.hp w F M) (hn : a.tmps.size = nt) {K : Act → World → Prop} {Q : Exit → Act → World → Prop}
    (hk : ∀ w' F' M' a', TS (putT st.tmps o.dst p) a' w' F' M' → HS h w' F' M' → Ext w w' F F' M M' → a'.tmps.size = nt → a'.defers = a.defers → K a' w') :
    (if Region.wanted o (yielded ops a.tmps) then o.wp P a w K Q ∨ (o.asks P a w ∧ LetsOut Q) else K (a.put o.dst undef) w) := by
  obtain ⟨h1, h2, h3⟩ := evStep_inv r hu e
  rw [wantedP_sound ht h2]
  have fin : ∀ {w' F' M' v}, VR w' F' M' p v → HS h w' F' M' → Ext w w' F F' M M' → K (a.put o.dst v) w' := fun hv hs' hx =>
    hk _ _ _ _ ((ht.ext hx).put hn h1 hv) hs' hx (by rw [put_size, hn]) (put_defers _ _ _)
  rcases h3 with ⟨rfl, rfl, rfl⟩ | ⟨rfl, h3⟩
  · rw [if_neg (by simp)]
    exact fin .un hs (Ext.refl w F M)
  · rw [if_pos rfl]
    left
    unfold Oper.wp
    rcases h3 with ⟨_, h3⟩ | ⟨f, l, h3, h4⟩
    · obtain ⟨w', M', h5, h6, h7⟩ := prim_sound hT hs ht o h3
      rcases h5 with ⟨v, h5, h8⟩ | ⟨h5, rfl⟩
      · rw [h5]; exact fin h8 h6 h7
      · rw [h5]; exact fin .un h6 h7
    · obtain ⟨args, h7, h8⟩ := enters_run (P := P) ht h3
      rw [h8 w]
      rcases hc f l st.hp p h h4 w F M args hs h7 with ⟨h5, h6⟩ | ⟨v, w', h5, v', F', M', heq, g1, g2, g3⟩
      · rw [callFunc_enters h5]
        refine Calls.mono h6 ?_
        rintro e w' ⟨v, F', M', rfl, g1, g2, g3⟩
        exact fin g1 g2 g3
      · rw [h5]
        cases heq
        exact fin g1 g2 g3

/-- a region in the text's order -/
theorem evOps_sound (r : R) (hT : TOk P T) {call : CallK R} (hu : UniCall call) (hc : SoundCall P call) {nt : Nat} {ops : Array Oper} {st' : St} {Q : Exit → Act → World → Prop} :
    ∀ (l : List Oper) (st : St), (∀ k, evOps T nt ops.toList l call st k = k st') → ∀ (a : Act) (w : World) (F : Fz) (M : Mp), TS st.tmps a w F M → HS st.hp w F M → a.tmps.size = nt →
      (∀ w' F' M' a', TS st'.tmps a' w' F' M' → HS st'.hp w' F' M' → Ext w w' F F' M M' → a'.tmps.size = nt → a'.defers = a.defers → Q .normal a' w') → wpList P ops Q l a w
  | [], st, e, a, w, F, M, ht, hs, hn, hq => by
    have := Uni.eq_of r e
    subst this
    exact hq w F M a ht hs (Ext.refl w F M) hn rfl
  | o :: rest, st, e, a, w, F, M, ht, hs, hn, hq => by
    unfold evOps at e
    rcases evStep_uni (T := T) hu nt ops.toList o st with g | ⟨b, p, h, g⟩
    · have g' : ∀ k, evStep T nt ops.toList o call st k = none := g
      have := e fun _ => some r
      rw [g'] at this
      cases this
    · have g' : ∀ k, evStep T nt ops.toList o call st k = k b p h := g
      have e' : ∀ k, evOps T nt ops.toList rest call ⟨putT st.tmps o.dst p, h⟩ k = k st' := fun k => by rw [← e k, g']
      exact evStep_sound r hT hu hc g ht hs hn fun w' F' M' a' h1 h2 h3 h4 h5 =>
        evOps_sound r hT hu hc rest _ e' a' w' F' M' h1 h2 h4 fun w'' F'' M'' a'' k1 k2 k3 k4 k5 => hq w'' F'' M'' a'' k1 k2 (h3.trans k3) k4 (k5.trans h5)
end
end Go.Ev

/- Freezing: what a row holds, as a value of its own. -/
namespace Go.Ev
variable [Env]
section
variable {P : Program} {T : Types} {w : World} {M : Mp}

theorem freeze_cellOk : ∀ (n : Nat) (hp : Hp) (p q : PV) (h : Hp), freeze n hp p = some (q, h) → cellOk p = true → cellOk q = true
  | 0, _, _, _, _, e, _ => by simp [freeze] at e
  | n + 1, hp, p, q, h, e, hc => by
    cases p with
    | v x => simp only [freeze] at e; cases e; exact hc
    | un => cases hc
    | sym k => simp only [freeze] at e; cases e; exact hc
    | unk k => simp only [freeze] at e; cases e; exact hc
    | sl es ex => simp only [freeze] at e; cases e; exact hc
    | agg cs => cases hc
    | tup cs => cases hc
    | row id off len cap rs =>
      simp only [freeze] at e
      cases hg : hp.get id with
      | none => simp [hg] at e
      | some b =>
        simp only [hg] at e
        cases hcu : cut b.cells off (len * b.sz) with
        | none => simp [hcu] at e
        | some cs =>
          simp only [hcu] at e
          cases hf : freezeL n (hp.put id ⟨b.cells, b.sz, b.loose, Nat.max b.frz (off + len * b.sz), b.ty⟩) cs with
          | none => simp [hf] at e
          | some lh =>
            simp only [hf] at e
            cases hgr : group b.sz len lh.1 with
            | none => simp [hgr] at e
            | some es => simp only [hgr] at e; cases e; rfl
    | ptr id off => simp [freeze] at e
    | ep cs off => simp [freeze] at e
    | clo f c => simp [freeze] at e
    | bnd f c => simp [freeze] at e
    | mp id => simp [freeze] at e
    | top => simp [freeze] at e

theorem group_spec {sz : Nat} : ∀ {n : Nat} {l : List PV} {es : List (List PV)}, group sz n l = some es → es.length = n ∧ (∀ e ∈ es, e.length = sz) ∧ ∀ (i j : Nat) e c, es[i]? = some e → e[j]? = some c → l[i * sz + j]? = some c
  | 0, l, es, h => by simp [group] at h; subst h; simp
  | n + 1, l, es, h => by
    unfold group at h
    cases ht : takeN l sz with
    | none => simp [ht] at h
    | some e =>
      simp only [ht] at h
      cases hg : group sz n (l.drop sz) with
      | none => simp [hg] at h
      | some r =>
        simp only [hg] at h; cases h
        obtain ⟨h1, h2⟩ := takeN_spec ht
        obtain ⟨g1, g2, g3⟩ := group_spec hg
        refine ⟨by simp [g1], ?_, ?_⟩
        · intro x hx
          cases hx with
          | head => rw [h1]; simp; omega
          | tail _ hx => exact g2 x hx
        · intro i j x c hx hc
          cases i with
          | zero =>
            simp at hx; subst hx
            rw [h1, List.getElem?_take] at hc
            split at hc
            · simpa using hc
            · cases hc
          | succ i =>
            simp only [List.getElem?_cons_succ] at hx
            have := g3 i j x c hx hc
            rw [List.getElem?_drop] at this
            rw [show (i + 1) * sz + j = sz + (i * sz + j) by rw [Nat.add_mul]; omega]
            exact this

/-- more cells of a block are closed -/
theorem HS.close {hp : Hp} {F : Fz} (hs : HS hp w F M) {id : Nat} {b : Blk} {p : Pl} (hg : hp.get id = some b) (hm : M id = some p) (lo hi : Nat) (hhi : hi ≤ b.cells.length) :
    let F' : Fz := fun x o => F x o ∨ (x = p.b ∧ p.sh + lo ≤ o ∧ o < p.sh + hi)
    HS (hp.put id ⟨b.cells, b.sz, b.loose, Nat.max b.frz hi, b.ty⟩) w F' M ∧ Ext w w F F' M M := by
  intro F'
  have br := hs.br id b p hg hm
  have hcell : ∀ x o, F x o → w.cell? ⟨x, o, none⟩ = w.cell? ⟨x, o, none⟩ := fun _ _ _ => rfl
  have hF : ∀ x o, F x o → F' x o := fun _ _ h => .inl h
  refine ⟨⟨?_, ?_, hs.lt, ?_, ?_, hs.ms.mono (Nat.le_refl _) (fun _ _ => rfl) hF hcell (fun _ _ h => h) fun _ _ _ h => h⟩, ⟨rfl, rfl, rfl, Nat.le_refl _, fun _ _ _ => rfl, hcell, fun _ _ h => h, hF, fun _ _ h => .inl h, ?_⟩⟩
  · intro i b' q hgi hmi
    rw [Hp.get_put] at hgi
    by_cases hi' : i = id
    · subst hi'
      rw [if_pos rfl, hg] at hgi
      simp only [Option.map_some] at hgi; cases hgi
      rw [hm] at hmi; cases hmi
      obtain ⟨c, e, h1, h2, h3, h4⟩ := br.blk
      refine ⟨br.n, br.sz, br.loose, ⟨c, e, h1, h2, h3, fun o x hx => ?_⟩, ?_, br.ty⟩
      · obtain ⟨k1, y, k2, k3⟩ := h4 o x hx
        exact ⟨k1, y, k2, k3.mono hF hcell fun _ _ h => h⟩
      · intro o ho hf
        simp only at ho
        have hmx1 : b.frz ≤ Nat.max b.frz hi := Nat.le_max_left _ _
        have hmx2 : hi ≤ Nat.max b.frz hi := Nat.le_max_right _ _
        rcases hf with hf | ⟨_, _, hf⟩
        · exact br.nf o (by omega) hf
        · omega
    · rw [if_neg hi'] at hgi
      have br' := hs.br i b' q hgi hmi
      have hne : q.b ≠ p.b := fun hb => hi' (hs.inj i id b' b q p hgi hg hmi hm hb)
      obtain ⟨c, e, h1, h2, h3, h4⟩ := br'.blk
      refine ⟨br'.n, br'.sz, br'.loose, ⟨c, e, h1, h2, h3, fun o x hx => ?_⟩, ?_, br'.ty⟩
      · obtain ⟨k1, y, k2, k3⟩ := h4 o x hx
        exact ⟨k1, y, k2, k3.mono hF hcell fun _ _ h => h⟩
      · intro o ho hf
        rcases hf with hf | ⟨hb, _⟩
        · exact br'.nf o ho hf
        · exact hne hb
  · intro i j bi bj q r h1 h2 h3 h4 h5
    have hsome : ∀ i b', (hp.put id ⟨b.cells, b.sz, b.loose, Nat.max b.frz hi, b.ty⟩).get i = some b' → ∃ b'', hp.get i = some b'' := by
      intro i b' h
      rw [Hp.get_put] at h
      split at h
      · subst_vars; exact ⟨b, hg⟩
      · exact ⟨b', h⟩
    obtain ⟨bi', h1'⟩ := hsome i bi h1
    obtain ⟨bj', h2'⟩ := hsome j bj h2
    exact hs.inj i j bi' bj' q r h1' h2' h3 h4 h5
  · intro i b' h
    rw [Hp.get_put] at h
    split at h
    · subst_vars; exact hs.fresh _ _ hg
    · exact hs.fresh _ _ h
  · intro x o h
    rcases h with h | ⟨rfl, _⟩
    · exact hs.fw x o h
    · exact (hs.lt id p hm).2
  · intro x o h
    rcases h with h | ⟨rfl, _⟩
    · exact .inl h
    · exact .inr (.inr ⟨id, p, hm, rfl⟩)

theorem VRs.ext {w' : World} {F F' : Fz} {M M' : Mp} {l : List PV} {ys : List Value} (h : VRs w F M l ys) (k : Ext w w' F F' M M') : VRs w' F' M' l ys :=
  ⟨h.1, fun i c y h1 h2 => (h.2 i c y h1 h2).ext k⟩

theorem VR.grow {w' : World} {F F' : Fz} {M' : Mp} {p : PV} {v : Value} (h : VR w F noMap p v) (k : Ext w w' F F' M M') : VR w' F' noMap p v :=
  h.mono k.mF k.cell fun _ _ h => h

mutual
theorem freeze_sound : ∀ (n : Nat) (hp : Hp) (p q : PV) (h : Hp), freeze n hp p = some (q, h) → ∀ (F : Fz) (v : Value), HS hp w F M → VR w F M p v →
    ∃ F', HS h w F' M ∧ Ext w w F F' M M ∧ VR w F' noMap q v
  | 0, _, _, _, _, e, _, _, _, _ => by simp [freeze] at e
  | n + 1, hp, p, q, h, e, F, v, hs, hv => by
    cases p with
    | v x =>
      simp only [freeze] at e; cases e
      cases hv with
      | v hx => exact ⟨F, hs, Ext.refl w F M, .v hx⟩
    | un =>
      simp only [freeze] at e; cases e
      cases hv
      exact ⟨F, hs, Ext.refl w F M, .un⟩
    | sym k =>
      simp only [freeze] at e; cases e
      cases hv
      exact ⟨F, hs, Ext.refl w F M, .sym⟩
    | unk k =>
      simp only [freeze] at e; cases e
      cases hv with
      | unk hv => exact ⟨F, hs, Ext.refl w F M, .unk hv⟩
    | sl es ex =>
      simp only [freeze] at e; cases e
      cases hv with
      | sl h1 h2 h3 h4 h5 => exact ⟨F, hs, Ext.refl w F M, .sl h1 h2 h3 h4 h5⟩
    | agg cs =>
      simp only [freeze] at e
      cases hf : freezeL n hp cs with
      | none => simp [hf] at e
      | some lh =>
        simp only [hf] at e; cases e
        cases hv with
        | agg h1 h2 h3 =>
          obtain ⟨F', g1, g2, g3, g4⟩ := freezeL_sound n hp cs lh.1 lh.2 hf F _ hs ⟨h1, h3⟩
          exact ⟨F', g1, g2, .agg g3.1 (fun i c hc => g4 i c hc h2) g3.2⟩
    | tup cs =>
      simp only [freeze] at e
      cases hf : freezeL n hp cs with
      | none => simp [hf] at e
      | some lh =>
        simp only [hf] at e; cases e
        cases hv with
        | tup h1 h3 =>
          obtain ⟨F', g1, g2, g3, _⟩ := freezeL_sound n hp cs lh.1 lh.2 hf F _ hs ⟨h1, h3⟩
          exact ⟨F', g1, g2, .tup g3.1 g3.2⟩
    | row id off len cap rs =>
      simp only [freeze] at e
      cases hg : hp.get id with
      | none => simp [hg] at e
      | some b =>
        simp only [hg] at e
        cases hcu : cut b.cells off (len * b.sz) with
        | none => simp [hcu] at e
        | some cs =>
          simp only [hcu] at e
          cases hf : freezeL n (hp.put id ⟨b.cells, b.sz, b.loose, Nat.max b.frz (off + len * b.sz), b.ty⟩) cs with
          | none => simp [hf] at e
          | some lh =>
            simp only [hf] at e
            cases hgr : group b.sz len lh.1 with
            | none => simp [hgr] at e
            | some es =>
              simp only [hgr] at e; cases e
              cases hv with
              | row hm h0 h1 h2 h3 =>
                rename_i cap' p
                have br := hs.br id b p hg hm
                obtain ⟨q1, q2⟩ := cut_spec hcu
                have hcl : off + len * b.sz ≤ b.cells.length := by
                  have : len * p.sz ≤ cap * p.sz := Nat.mul_le_mul_right _ h1
                  have := br.n; rw [← br.sz]; omega
                obtain ⟨c1, c2⟩ := hs.close hg hm off (off + len * b.sz) hcl
                obtain ⟨ys, r1, r2, r3⟩ := hs.read hg hm hcu
                obtain ⟨F', g1, g2, g3, g4⟩ := freezeL_sound n _ cs lh.1 lh.2 hf _ ys c1 (VRs.ext ⟨r1.1, fun i c y hc hy => (r1.2 i c y hc hy).2⟩ c2)
                obtain ⟨s1, s2, s3⟩ := group_spec hgr
                refine ⟨F', g1, c2.trans g2, ?_⟩
                have hlen : lh.1.length = cs.length := by rw [← g3.1, r1.1]
                have hcs : cs.length = len * b.sz := by rw [q1]; simp; omega
                have key : ∀ (i j : Nat) el c, es[i]? = some el → el[j]? = some c → i * b.sz + j < len * b.sz ∧ lh.1[i * b.sz + j]? = some c := by
                  intro i j el c h1 h2
                  have := s3 i j el c h1 h2
                  have hlt := (List.getElem?_eq_some_iff.1 this).1
                  exact ⟨by omega, this⟩
                have hres := VR.sl (w := w) (F := F') (M := noMap) (es := es) (ex := Nat.beq len cap && (!b.loose || Nat.blt (off + cap * b.sz) b.cells.length)) (b := p.b) (o := p.sh + off) (cap := cap') (sz := b.sz) (f := fun i j => ys.getD (i * b.sz + j) undef)
                  (by
                    intro hx
                    simp only [Bool.and_eq_true] at hx
                    have hlc := Nat.eq_of_beq_eq_true hx.1
                    rcases h3 with h3 | ⟨h3, h4, h5, h6⟩
                    · omega
                    · rw [br.loose] at h3
                      have hx2 := hx.2
                      simp only [h3, Bool.not_true, Bool.false_or] at hx2
                      have := Nat.le_of_ble_eq_true hx2
                      rw [br.n, br.sz] at h4
                      omega)
                  (by rcases h3 with h3 | ⟨h3, h4, h5, h6⟩ <;> omega)
                  (fun i el h => s2 el (List.mem_of_getElem? h))
                  (by
                    intro i j el c h1 h2
                    obtain ⟨k1, k2⟩ := key i j el c h1 h2
                    have hy : ys[i * b.sz + j]? = some (ys.getD (i * b.sz + j) undef) := by
                      have : i * b.sz + j < ys.length := by omega
                      simp [this]
                    refine ⟨g4 _ c k2 (fun i c hc => by
                        obtain ⟨y, hy'⟩ : ∃ y, ys[i]? = some y := by
                          have := (List.getElem?_eq_some_iff.1 hc).1
                          rw [← r1.1] at this
                          exact ⟨_, List.getElem?_eq_getElem this⟩
                        exact (r1.2 i c y hc hy').1), ?_, ?_⟩
                    · exact g2.mF _ _ (.inr ⟨rfl, by omega, by omega⟩)
                    · rw [Nat.add_assoc]; exact r3 _ _ hy)
                  (by
                    intro i j el c h1 h2
                    obtain ⟨k1, k2⟩ := key i j el c h1 h2
                    have hy : ys[i * b.sz + j]? = some (ys.getD (i * b.sz + j) undef) := by
                      have : i * b.sz + j < ys.length := by omega
                      simp [this]
                    exact g3.2 _ c _ k2 hy)
                rw [s1] at hres
                exact hres
    | ptr id off => simp [freeze] at e
    | ep cs off => simp [freeze] at e
    | clo f c => simp [freeze] at e
    | bnd f c => simp [freeze] at e
    | mp id => simp [freeze] at e
    | top => simp [freeze] at e
theorem freezeL_sound : ∀ (n : Nat) (hp : Hp) (l m : List PV) (h : Hp), freezeL n hp l = some (m, h) → ∀ (F : Fz) (ys : List Value), HS hp w F M → VRs w F M l ys →
    ∃ F', HS h w F' M ∧ Ext w w F F' M M ∧ VRs w F' noMap m ys ∧ ∀ (i : Nat) c, m[i]? = some c → (∀ (i : Nat) c, l[i]? = some c → cellOk c = true) → cellOk c = true
  | 0, _, _, _, _, e, _, _, _, _ => by simp [freezeL] at e
  | n + 1, hp, [], m, h, e, F, ys, hs, hv => by
    simp only [freezeL] at e; cases e
    exact ⟨F, hs, Ext.refl w F M, ⟨hv.1, fun i c y hc => by simp at hc⟩, fun i c hc => by simp at hc⟩
  | n + 1, hp, x :: l, m, h, e, F, ys, hs, hv => by
    simp only [freezeL] at e
    cases hf : freeze n hp x with
    | none => simp [hf] at e
    | some yh =>
      simp only [hf] at e
      cases hl : freezeL n yh.2 l with
      | none => simp [hl] at e
      | some mh =>
        simp only [hl] at e; cases e
        cases ys with
        | nil => have := hv.1; simp at this
        | cons y ys =>
          obtain ⟨F1, g1, g2, g3⟩ := freeze_sound n hp x yh.1 yh.2 hf F y hs (hv.2 0 x y rfl rfl)
          have hv' : VRs w F M l ys := ⟨by have := hv.1; simpa using this, fun i c z hc hz => hv.2 (i + 1) c z (by simpa using hc) (by simpa using hz)⟩
          obtain ⟨F2, k1, k2, k3, k4⟩ := freezeL_sound n yh.2 l mh.1 mh.2 hl F1 ys g1 (hv'.ext g2)
          refine ⟨F2, k1, g2.trans k2, ⟨by have := k3.1; simpa using this, ?_⟩, ?_⟩
          · intro i c z hc hz
            cases i with
            | zero => simp at hc hz; subst hc; subst hz; exact g3.grow k2
            | succ i => exact k3.2 i c z (by simpa using hc) (by simpa using hz)
          · intro i c hc hall
            cases i with
            | zero => simp at hc; subst hc; exact freeze_cellOk n hp x yh.1 yh.2 hf (hall 0 x rfl)
            | succ i => exact k4 i c (by simpa using hc) fun i c hc => hall (i + 1) c (by simpa using hc)
end
theorem freeze_top : ∀ (n : Nat) (hp : Hp) (p : PV) (h : Hp), freeze n hp p = some (.top, h) → False
  | 0, _, _, _, e => by simp [freeze] at e
  | n + 1, hp, p, h, e => by
    cases p with
    | v x => simp only [freeze] at e; cases e
    | un => simp only [freeze] at e; cases e
    | sym k => simp only [freeze] at e; cases e
    | unk k => simp only [freeze] at e; cases e
    | sl es ex => simp only [freeze] at e; cases e
    | agg cs =>
      simp only [freeze] at e
      cases hf : freezeL n hp cs with
      | none => simp [hf] at e
      | some lh => simp only [hf] at e; cases e
    | tup cs =>
      simp only [freeze] at e
      cases hf : freezeL n hp cs with
      | none => simp [hf] at e
      | some lh => simp only [hf] at e; cases e
    | row id off len cap rs =>
      simp only [freeze] at e
      cases hg : hp.get id with
      | none => simp [hg] at e
      | some b =>
        simp only [hg] at e
        cases hcu : cut b.cells off (len * b.sz) with
        | none => simp [hcu] at e
        | some cs =>
          simp only [hcu] at e
          cases hf : freezeL n (hp.put id ⟨b.cells, b.sz, b.loose, Nat.max b.frz (off + len * b.sz), b.ty⟩) cs with
          | none => simp [hf] at e
          | some lh =>
            simp only [hf] at e
            cases hgr : group b.sz len lh.1 with
            | none => simp [hgr] at e
            | some es => simp only [hgr] at e; cases e
    | ptr id off => simp [freeze] at e
    | ep cs off => simp [freeze] at e
    | clo f c => simp [freeze] at e
    | bnd f c => simp [freeze] at e
    | mp id => simp [freeze] at e
    | top => simp [freeze] at e

theorem freezeL_unKey : ∀ {n : Nat} {hp : Hp} {l m : List PV} {h : Hp}, freezeL n hp l = some (m, h) → unKey m = none
  | 0, _, _, _, _, e => by simp [freezeL] at e
  | n + 1, hp, [], m, h, e => by simp only [freezeL] at e; cases e; rfl
  | n + 1, hp, x :: l, m, h, e => by
    simp only [freezeL] at e
    cases hf : freeze n hp x with
    | none => simp [hf] at e
    | some yh =>
      simp only [hf] at e
      cases hl : freezeL n yh.2 l with
      | none => simp [hl] at e
      | some mh =>
        simp only [hl] at e
        cases e
        unfold unKey
        split
        · rename_i heq
          injection heq with h1 h2
          exact (freeze_top n hp x yh.2 (by rw [hf, ← h1])).elim
        · rfl
end
end Go.Ev
