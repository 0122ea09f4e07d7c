/- The evaluator goes on in one way: its continuation is met once, with what doesn't hang on it, or never. -/
import Derived.Test.YthblmompgocidaaGreatDoorEvDef
set_option linter.all false
namespace Go.Ev
section
variable {R : Type} {T : Types}

def Uni {A R : Type} (x : (A → Option R) → Option R) : Prop := (∀ k, x k = none) ∨ ∃ a, ∀ k, x k = k a
def Uni2 {A B R : Type} (x : (A → B → Option R) → Option R) : Prop := (∀ k, x k = none) ∨ ∃ a b, ∀ k, x k = k a b
def Uni3 {A B C R : Type} (x : (A → B → C → Option R) → Option R) : Prop := (∀ k, x k = none) ∨ ∃ a b c, ∀ k, x k = k a b c

def UniCall (call : CallK R) : Prop := ∀ f l hp, Uni2 (call f l hp)
def UniRC (rc : RC R) : Prop := ∀ fi c st, Uni2 (rc fi c st)

theorem evDo_uni {call : CallK R} (hc : UniCall call) (hp : Hp) (e : Option (Option (Nat × List PV))) (p : Option (PV × Hp)) : Uni3 fun next => evDo call hp next e p := by
  cases e with
  | none => exact .inl fun _ => rfl
  | some e =>
    cases e with
    | none =>
      cases p with
      | none => exact .inl fun _ => rfl
      | some p => exact .inr ⟨true, p.1, p.2, fun _ => rfl⟩
    | some fl =>
      rcases hc fl.1 fl.2 hp with h | ⟨p, h', h⟩
      · exact .inl fun _ => h _
      · exact .inr ⟨true, p, h', fun _ => h _⟩

theorem evStep_uni {call : CallK R} (hc : UniCall call) (nt : Nat) (all : List Oper) (o : Oper) (st : St) : Uni3 fun next => evStep T nt all o call st next := by
  unfold evStep
  cases dstOk nt o.dst with
  | false => exact .inl fun _ => rfl
  | true =>
    simp only []
    cases wantedP all o st.tmps with
    | none => exact .inl fun _ => rfl
    | some b =>
      cases b with
      | false => exact .inr ⟨_, _, _, fun _ => rfl⟩
      | true => exact evDo_uni hc _ _ _

theorem evOps_uni {call : CallK R} (hc : UniCall call) (nt : Nat) (all : List Oper) : ∀ (ops : List Oper) (st : St), Uni fun k => evOps T nt all ops call st k
  | [], st => .inr ⟨st, fun _ => rfl⟩
  | o :: rest, st => by
    unfold evOps
    rcases evStep_uni (T := T) hc nt all o st with h | ⟨b, p, h', h⟩
    · exact .inl fun _ => h _
    · rcases evOps_uni hc nt all rest ⟨putT st.tmps o.dst p, h'⟩ with g | ⟨s, g⟩
      · exact .inl fun k => by rw [h]; exact g k
      · exact .inr ⟨s, fun k => by rw [h]; exact g k⟩

theorem evOpsD_uni {call : CallK R} (hc : UniCall call) (nt : Nat) (all : List Oper) : ∀ (L : List (Nat × Nat)) (lg : Lg) (st : St), Uni fun k => evOpsD T nt all L lg call st k
  | [], _, st => .inr ⟨st, fun _ => rfl⟩
  | (i, m) :: L, lg, st => by
    unfold evOpsD
    cases all[i]? with
    | none => exact .inl fun _ => rfl
    | some o =>
      simp only []
      rcases evStep_uni (T := T) hc nt all o st with h | ⟨b, p, h', h⟩
      · exact .inl fun _ => h _
      · cases hl : logOf T o.op i m lg st b h' p with
        | none => exact .inl fun k => by rw [h, hl]; rfl
        | some lg' =>
          rcases evOpsD_uni hc nt all L lg' ⟨putT st.tmps o.dst p, h'⟩ with g | ⟨s, g⟩
          · exact .inl fun k => by rw [h, hl]; exact g k
          · exact .inr ⟨s, fun k => by rw [h, hl]; exact g k⟩

theorem Uni.kept {x : (St → Option R) → Option R} (h : Uni x) (ks kl : Option (List Nat)) : Uni2 fun (k : Ex → St → Option R) => x (kept ks kl k) := by
  rcases h with h | ⟨s, h⟩
  · exact .inl fun _ => h _
  · cases ks with
    | none => exact .inr ⟨.normal, ⟨s.tmps, swept kl s.tmps s.hp⟩, fun k => h _⟩
    | some ks => exact .inr ⟨.normal, ⟨Al.keep s.tmps ks, swept kl s.tmps s.hp⟩, fun k => h _⟩

theorem evC_uni {call : CallK R} (hc : UniCall call) {rc : RC R} (hr : UniRC rc) (fi : FI) : ∀ (c : Code) (st : St), Uni2 fun k => evC T fi c call rc st k
  | .skip, st => .inr ⟨.normal, st, fun _ => rfl⟩
  | .region id ops draw, st => by
    unfold evC
    cases draw with
    | false => exact (evOps_uni hc _ _ _ _).kept _ _
    | true =>
      simp only []
      cases fi.sched.get id with
      | none => exact .inl fun _ => rfl
      | some L => exact (evOpsD_uni hc _ _ _ _ _).kept _ _
  | .seq a b, st => by
    unfold evC
    rcases evC_uni hc hr fi a st with h | ⟨e, s, h⟩
    · exact .inl fun _ => h _
    · cases e with
      | normal =>
        rcases evC_uni hc hr fi b s with g | ⟨e', s', g⟩
        · exact .inl fun k => by rw [h]; exact g k
        · exact .inr ⟨e', s', fun k => by rw [h]; exact g k⟩
      | exit i => exact .inr ⟨.exit i, s, fun k => by rw [h]; rfl⟩
      | ret => exact .inr ⟨.ret, s, fun k => by rw [h]; rfl⟩
  | .cond c x y, st => by
    unfold evC
    split
    · exact evC_uni hc hr fi x st
    · exact evC_uni hc hr fi y st
    · exact .inl fun _ => rfl
  | .block id c, st => by
    unfold evC
    rcases evC_uni hc hr fi c st with h | ⟨e, s, h⟩
    · exact .inl fun _ => h _
    · cases e with
      | normal => exact .inr ⟨.normal, s, fun k => by rw [h]; rfl⟩
      | exit i =>
        cases hi : Nat.beq i id with
        | true => exact .inr ⟨.normal, s, fun k => by rw [h]; simp [blockK, hi]⟩
        | false => exact .inr ⟨.exit i, s, fun k => by rw [h]; simp [blockK, hi]⟩
      | ret => exact .inr ⟨.ret, s, fun k => by rw [h]; rfl⟩
  | .loop c, st => by
    unfold evC
    rcases evC_uni hc hr fi c st with h | ⟨e, s, h⟩
    · exact .inl fun _ => h _
    · cases e with
      | normal =>
        rcases hr fi (.loop c) s with g | ⟨e', s', g⟩
        · exact .inl fun k => by rw [h]; exact g k
        · exact .inr ⟨e', s', fun k => by rw [h]; exact g k⟩
      | exit i => exact .inr ⟨.exit i, s, fun k => by rw [h]; rfl⟩
      | ret => exact .inr ⟨.ret, s, fun k => by rw [h]; rfl⟩
  | .exit id, st => .inr ⟨.exit id, st, fun _ => rfl⟩
  | .ret, st => .inr ⟨.ret, st, fun _ => rfl⟩
  | .scope _, _ => .inl fun _ => rfl
  | .rangeFunc .., _ => .inl fun _ => rfl
  | .label _, _ => .inl fun _ => rfl
  | .goto _, _ => .inl fun _ => rfl
  | .refuse _, _ => .inl fun _ => rfl

theorem endK_uni {fn : Func} {x : (Ex → St → Option R) → Option R} (h : Uni2 x) : Uni2 fun k => x (endK T fn k) := by
  rcases h with h | ⟨e, s, h⟩
  · exact .inl fun _ => h _
  · cases e with
    | exit i => exact .inl fun k => by show x _ = _; rw [h]; rfl
    | normal =>
      cases hr : resOf T fn s with
      | none => exact .inl fun k => by show x _ = _; rw [h]; simp [endK, hr]
      | some p => exact .inr ⟨p, s.hp, fun k => by show x _ = _; rw [h]; simp [endK, hr]⟩
    | ret =>
      cases hr : resOf T fn s with
      | none => exact .inl fun k => by show x _ = _; rw [h]; simp [endK, hr]
      | some p => exact .inr ⟨p, s.hp, fun k => by show x _ = _; rw [h]; simp [endK, hr]⟩

theorem bodyF_uni {rc : RC R} (hr : UniRC rc) (fi : FI) (l : List PV) (hp : Hp) : Uni2 fun k => bodyF T fi rc l hp k := by
  unfold bodyF
  cases fi.fn.body with
  | none => exact .inl fun _ => rfl
  | some c =>
    simp only []
    cases Nat.ble l.length fi.fn.ntmps with
    | false => exact .inl fun _ => rfl
    | true => exact endK_uni (hr _ _ _)

theorem ownF_uni {rc : RC R} (hr : UniRC rc) (fi : FI) (l : List PV) (hp : Hp) : Uni2 fun k => ownF T fi rc l hp k := by
  unfold ownF
  cases fi.frz with
  | false => exact bodyF_uni hr fi l hp
  | true =>
    simp only []
    rcases bodyF_uni (T := T) hr fi l hp with h | ⟨p, h', h⟩
    · exact .inl fun k => h _
    · cases hf : freeze deepN h' p with
      | none => exact .inl fun k => by rw [h]; simp [frzK, hf]
      | some q => exact .inr ⟨q.1, q.2, fun k => by rw [h]; simp [frzK, hf]⟩

theorem callO_uni (O : Orc) (f : Nat) (x : Option (List PV × Hp)) : Uni2 (fun k : PV → Hp → Option R => callO O f k x) := by
  unfold callO
  cases x with
  | none => exact .inl fun _ => rfl
  | some d =>
    simp only []
    cases O f d.1 with
    | none => exact .inl fun _ => rfl
    | some q => exact .inr ⟨q, d.2, fun _ => rfl⟩

theorem callA_uni (O : Orc) (f : Nat) (fz : Hp → List PV → Option (List PV × Hp)) (l : List PV) (hp : Hp) : Uni2 (fun k : PV → Hp → Option R => callA O f fz l hp k) := by
  unfold callA
  split
  · split
    · unfold callS
      cases fz hp _ with
      | none => exact .inl fun _ => rfl
      | some d =>
        simp only []
        cases d.2.get _ with
        | none => exact .inl fun _ => rfl
        | some b =>
          simp only []
          cases stOk b with
          | false => exact .inl fun _ => rfl
          | true =>
            simp only []
            unfold stAns
            split
            · split
              · exact .inr ⟨_, _, fun _ => rfl⟩
              · exact .inl fun _ => rfl
            · exact .inl fun _ => rfl
    · exact .inl fun _ => rfl
  · exact callO_uni O f _

theorem callF_uni {rc : RC R} (hr : UniRC rc) (FT : Fns) (O : Orc) : UniCall (callF T FT O rc) := by
  intro f l hp
  unfold callF
  cases FT.get f with
  | none => exact callA_uni O f _ l hp
  | some fi =>
    simp only []
    cases fi.data with
    | false =>
      simp only []
      cases fi.mix with
      | false =>
        simp only []
        cases fi.fn.body with
        | some _ => exact ownF_uni hr fi l hp
        | none =>
          simp only []
          unfold noBody
          cases fi.frz with
          | false =>
            simp only []
            unfold extF
            split
            · exact .inr ⟨_, hp, fun _ => rfl⟩
            · exact .inl fun _ => rfl
          | true =>
            simp only []
            unfold cmpTxt
            split
            · exact .inr ⟨_, hp, fun _ => rfl⟩
            · exact .inl fun _ => rfl
      | true =>
        simp only []
        cases l.any headUnk with
        | false => exact ownF_uni hr fi l hp
        | true => exact callO_uni O f _
    | true =>
      simp only []
      unfold callD
      cases freezeL deepN hp l with
      | none => exact .inl fun _ => rfl
      | some d =>
        simp only []
        rcases bodyF_uni (T := T) hr fi d.1 ⟨[], 0, []⟩ with h | ⟨p, h', h⟩
        · exact .inl fun k => h _
        · cases hf : freeze deepN h' p with
          | none => exact .inl fun k => by rw [h]; simp [dataK, hf]
          | some q => exact .inr ⟨q.1, d.2, fun k => by rw [h]; simp [dataK, hf]⟩

theorem run_uni (FT : Fns) (O : Orc) : ∀ n, UniRC (run (R := R) T FT O n)
  | 0 => fun _ _ _ => .inl fun _ => rfl
  | n + 1 => fun fi c st => evC_uni (callF_uni (run_uni FT O n) FT O) (run_uni FT O n) fi c st
end
end Go.Ev
