/- Each operation that enters no function does in the world what the evaluator says. -/
import Derived.Test.YtmlnfoabpcccnaaGreatEvAb
import Derived.Laws.Entries
import Derived.ChangeKeysEq
import Derived.Laws.StructEq
import Derived.Laws.Pointers
import Derived.Laws.Cover3
import Derived.Laws.MakeOwn
set_option linter.all false
/- Each operation that enters no function does in the world what the evaluator says. -/
namespace Go.Ev
variable [Env]

def GoodQ (w : World) (F : Fz) (M : Mp) (res : Result Value) (p : PV) (hp h : Hp) : Prop :=
  h = hp ∧ ∃ v, res = .ok v w ∧ VR w F M p v

/-- an operand that may be left out -/
def VO (w : World) (F : Fz) (M : Mp) (x : Option PV) (v : Option Value) : Prop :=
  match x, v with
  | none, none => True
  | some p, some y => VR w F M p y
  | _, _ => False

/-- answers about cells that are not looked into are right -/
structure AskOk (P : Program) (A : AskOp → List PV → Option PV) : Prop where
  bin : ∀ op t x y p, A (.bin op t) [x, y] = some p → ∀ (w : World) (F : Fz) (M : Mp) (v u : Value) (ox oy : Operand) (hp : Hp), VR w F M x v → VR w F M y u →
    GoodQ w F M ((do eqGuard op t ox oy v u; binOp op t v u : Sem Value).run P w) p hp hp
  len : ∀ t x p, A (.len t) [x] = some p → ∀ (w : World) (F : Fz) (M : Mp) (v : Value) (ty : TypeId) (hp : Hp), VR w F M x v → GoodQ w F M ((Builtin.len_ #[t] ty #[v]).run P w) p hp hp
  index : ∀ t x i p, A (.index t) [x, i] = some p → ∀ (w : World) (F : Fz) (M : Mp) (v u : Value) (hp : Hp), VR w F M x v → VR w F M i u → GoodQ w F M ((Instr.index t v u).run P w) p hp hp
  addr : ∀ t x i p, A (.addr t) [x, i] = some p → ∀ (w : World) (F : Fz) (M : Mp) (v u : Value) (hp : Hp), VR w F M x v → VR w F M i u → GoodQ w F M ((Instr.indexAt t v u).run P w) p hp hp
  slice : ∀ t x lo hi p, A (.slice t) [x, bndPV lo, bndPV hi] = some p → ∀ (w : World) (F : Fz) (M : Mp) (v : Value) (l' h' : Option Value) (hp : Hp), VR w F M x v → VO w F M lo l' → VO w F M hi h' → GoodQ w F M ((Instr.sliceAt t v l' h' none).run P w) p hp hp
  conv : ∀ s d x p, A (.conv s d) [x] = some p → ∀ (w : World) (F : Fz) (M : Mp) (v : Value) (hp : Hp), VR w F M x v → GoodQ w F M ((convert s d v).run P w) p hp hp

structure TOk (P : Program) (T : Types) : Prop where
  ty : ∀ t i, T.get t = some i → mkTy P t = some i ∧ zeroOk i.zero = true
  fields : ∀ t i, T.get t = some i → i.kind = 3 → ∀ x ∈ i.fields, ∃ j, T.get x.2 = some j
  ask : AskOk P T.ask

/-- what mkTy tells -/
structure TySpec (P : Program) (t : TypeId) (i : TyI) (info : TypeInfo) (u : TypeDesc) (z : Value) : Prop where
  hinfo : P.info? t = some info
  und : P.underlying t = some u
  hzero : info.zero = some z
  size : i.size = info.size
  bytes : i.bytes = info.bytes
  cells : i.zero = z.cells.toList
  agg : i.isAgg = (match u with | .struct _ | .array _ _ => true | _ => false)
  k1 : i.kind = 1 → u = .slice i.elem
  k2 : i.kind = 2 → u = .array i.alen i.elem
  k3 : i.kind = 3 → ∃ fs, u = .struct fs ∧ i.fields = fs.toList.map (fun f => (f.offset, f.type)) ∧ (i.eqok = true → P.stoodInHeld t = false ∧ ∀ f ∈ fs, f.name ≠ "_")
  k4 : i.kind = 4 → u = .string
  k5 : i.kind ≠ 5 → ∀ ms, u ≠ .interface ms
  k6 : i.kind = 6 → u = .int i.ik
  k7 : i.kind = 7 → u = .bool
  k8 : i.kind = 8 → u = .pointer i.elem
  k9 : i.kind = 9 → u = .map i.alen i.elem ∧ zForm P i.elem = true
  k10 : i.kind = 10 → u = .unsafePointer
  eqg : (i.kind = 2 ∨ i.kind = 3) → i.eqok = true → P.eqGuardType P.depth t = false

theorem mkTy_spec {P : Program} {t : TypeId} {i : TyI} (h : mkTy P t = some i) : ∃ info u z, TySpec P t i info u z := by
  unfold mkTy at h
  cases h1 : P.info? t with
  | none => simp [h1] at h
  | some info =>
    cases h2 : P.underlying t with
    | none => simp [h1, h2] at h
    | some u =>
      cases h3 : info.zero with
      | none => simp [h1, h2, h3] at h
      | some z =>
        refine ⟨info, u, z, ?_⟩
        simp only [h1, h2, h3] at h
        cases u
        case map k e =>
          simp only [] at h
          cases hz : zForm P e with
          | false => simp [hz] at h
          | true =>
            simp only [hz, Option.some.injEq] at h; subst h
            exact ⟨h1, h2, h3, rfl, rfl, rfl, rfl, by simp, by simp, by simp, by simp, by simp, by simp, by simp, by simp, fun _ => ⟨rfl, hz⟩, by simp, by simp⟩
        all_goals (simp only [Option.some.injEq] at h; subst h)
        case struct fs =>
          refine ⟨h1, h2, h3, rfl, rfl, rfl, rfl, by simp, by simp, ?_, by simp, by simp, by simp, by simp, by simp, by simp, by simp, by simp (config := { contextual := true })⟩
          intro _
          refine ⟨fs, rfl, rfl, fun he => ?_⟩
          simp only [Bool.and_eq_true, List.all_eq_true, Bool.not_eq_true'] at he
          exact ⟨he.1.2, fun f hf => by simpa using he.2 f (by simpa using hf)⟩
        all_goals exact ⟨h1, h2, h3, rfl, rfl, rfl, rfl, by simp, by simp, by simp (config := { contextual := true }), by simp, by simp, by simp, by simp, by simp, by simp, by simp, by simp (config := { contextual := true })⟩

theorem TOk.get {P : Program} {T : Types} (hT : TOk P T) {t : TypeId} {i : TyI} (h : T.get t = some i) : ∃ info u z, TySpec P t i info u z ∧ zeroOk i.zero = true := by
  obtain ⟨h1, h2⟩ := hT.ty t i h
  obtain ⟨info, u, z, h3⟩ := mkTy_spec h1
  exact ⟨info, u, z, h3, h2⟩

theorem zero_VL {w F M} : ∀ {zs : List Value}, zeroOk zs = true → VL w F M (zs.map .v) zs
  | [], _ => VL.nil
  | x :: l, h => by
    simp only [zeroOk, Bool.and_eq_true] at h
    exact VL.cons h.1.2 (.v h.1.1) (zero_VL h.2)

section
variable {P : Program} (w : World)
theorem run_sizeOf' {t : TypeId} {i : TypeInfo} (h : P.info? t = some i) : (sizeOf t).run P w = .ok i.size w := by
  unfold sizeOf
  simp [run_typeInfo w h]
theorem run_isAgg' {t : TypeId} {u : TypeDesc} (h : P.underlying t = some u) : (isAgg t).run P w = .ok (match u with | .struct _ | .array _ _ => true | _ => false) w := by
  unfold isAgg
  simp only [Sem.run_bind, run_underlying h, Result.andThen_ok]
  cases u <;> rfl
theorem run_zeroValue' {t : TypeId} {i : TypeInfo} {z : Value} (h : P.info? t = some i) (hz : i.zero = some z) : (zeroValue t).run P w = .ok z w := by
  unfold zeroValue
  simp [run_typeInfo w h, hz]
end

def TS (tm : Tm) (a : Act) (w : World) (F : Fz) (M : Mp) : Prop :=
  ∀ t p, Al.get tm t = some p → t < a.tmps.size ∧ VR w F M p (a.tmps.getD t undef)

theorem TS.ext {tm a w w' F F' M M'} (h : TS tm a w F M) (k : Ext w w' F F' M M') : TS tm a w' F' M' :=
  fun t p hp => ⟨(h t p hp).1, (h t p hp).2.ext k⟩

theorem TS.opd {tm a w F M} (h : TS tm a w F M) {x : Operand} {p : PV} (hx : opd x tm = some p) : VR w F M p (a.eval x) := by
  cases x with
  | tmp t => exact (h t p hx).2
  | const v =>
    unfold Ev.opd at hx
    cases hf : flat v with
    | true => simp only [hf] at hx; cases hx; exact .v hf
    | false => simp only [hf] at hx; cases hx
  | func f => cases hx; exact .clo (ys := []) rfl (fun i c y h => by simp at h)
  | global g => cases hx

theorem TS.opds {tm a w F M} (h : TS tm a w F M) : ∀ {xs : List Operand} {ps : List PV}, Ev.opds xs tm = some ps →
    (xs.map a.eval).length = ps.length ∧ ∀ (i : Nat) c y, ps[i]? = some c → (xs.map a.eval)[i]? = some y → VR w F M c y
  | [], ps, hx => by cases hx; exact ⟨rfl, fun i c y h => by simp at h⟩
  | x :: r, ps, hx => by
    unfold Ev.opds consO at hx
    cases h1 : Ev.opd x tm with
    | none => simp [h1] at hx
    | some p =>
      cases h2 : Ev.opds r tm with
      | none => simp [h1, h2] at hx
      | some l =>
        simp only [h1, h2] at hx; cases hx
        obtain ⟨h3, h4⟩ := h.opds h2
        refine ⟨by simp at h3 ⊢; exact h3, fun i c y hc hy => ?_⟩
        cases i with
        | zero => simp at hc hy; subst hc; subst hy; exact h.opd h1
        | succ i => simp only [List.getElem?_cons_succ, List.map_cons] at hc hy; exact h4 i c y hc hy

/-- an operation came to a value, or to none -/
def GoodN (w : World) (F : Fz) (M : Mp) (res : Result Next) (p : PV) (h : Hp) : Prop :=
  ∃ w' M', ((∃ v, res = .ok (.value v) w' ∧ VR w' F M' p v) ∨ (res = .ok .skip w' ∧ p = .un)) ∧ HS h w' F M' ∧ Ext w w' F F M M'

/-- a value was come to -/
def GoodV (w : World) (F : Fz) (M : Mp) (res : Result Value) (p : PV) (h : Hp) : Prop :=
  ∃ w' M' v, res = .ok v w' ∧ VR w' F M' p v ∧ HS h w' F M' ∧ Ext w w' F F M M'

theorem GoodV.of {w F M p h v} {P : Program} {s : Sem Value} (hs : HS h w F M) (hr : s.run P w = .ok v w) (hv : VR w F M p v) : GoodV w F M (s.run P w) p h :=
  ⟨w, M, v, hr, hv, hs, Ext.refl w F M⟩

theorem GoodV.next {w F M p h} {P : Program} {s : Sem Value} (g : GoodV w F M (s.run P w) p h) : GoodN w F M ((do pure (Next.value (← s)) : Sem Next).run P w) p h := by
  obtain ⟨w', M', v, hr, hv, hs, hx⟩ := g
  refine ⟨w', M', .inl ⟨v, ?_, hv⟩, hs, hx⟩
  simp [hr]

/-- a value was come to, and nothing else was done -/
theorem GoodQ.of {w F M p h v} {P : Program} {s : Sem Value} (hr : s.run P w = .ok v w) (hv : VR w F M p v) : GoodQ w F M (s.run P w) p h h := ⟨rfl, v, hr, hv⟩

theorem ret1_some {hp : Hp} {x : Option PV} {p h} (e : ret1 hp x = some (p, h)) : x = some p ∧ h = hp := by
  cases x with
  | none => cases e
  | some q => cases e; exact ⟨rfl, rfl⟩

/-! ### loads -/
theorem partOf_spec {P : Program} {T : Types} (hT : TOk P T) {t : TypeId} {cs : List PV} {off : Nat} {p : PV} (h : partOf T t cs off = some p) :
    ∃ i info u z, T.get t = some i ∧ TySpec P t i info u z ∧ ((i.isAgg = true ∧ ∃ l, cut cs off i.size = some l ∧ p = .agg l) ∨ (i.isAgg = false ∧ cut cs off 1 = some [p])) := by
  unfold partOf at h
  cases h1 : T.get t with
  | none => simp [h1] at h
  | some i =>
    obtain ⟨info, u, z, h2, _⟩ := hT.get h1
    refine ⟨i, info, u, z, rfl, h2, ?_⟩
    simp only [h1] at h
    cases h3 : i.isAgg with
    | true =>
      left
      simp only [h3] at h
      cases h4 : cut cs off i.size with
      | none => simp [h4] at h
      | some l => simp only [h4] at h; cases h; exact ⟨rfl, l, rfl, rfl⟩
    | false =>
      right
      simp only [h3] at h
      refine ⟨rfl, ?_⟩
      unfold cut
      have h5 : off < cs.length := (List.getElem?_eq_some_iff.1 h).1
      have h6 : cs.drop off = p :: cs.drop (off + 1) := by
        rw [List.drop_eq_getElem_cons h5]
        congr 1
        exact Option.some.inj ((List.getElem?_eq_getElem h5).symm.trans h)
      rw [h6]; simp [takeN]

theorem run_loadVar {P : Program} {T : Types} (hT : TOk P T) {w : World} {F M} {t : TypeId} {cs : List PV} {off : Nat} {p : PV} (h : partOf T t cs off = some p) {a : Addr} (ha : a.spot = none)
    (hr : ∀ {n : Nat} {l : List PV}, cut cs off n = some l → ∃ ys, VL w F M l ys ∧ ys.length = n ∧ ∀ (j : Nat) v, ys[j]? = some v → w.cell? ⟨a.block, a.off + j, none⟩ = some v) :
    ∃ v, (loadVar t a).run P w = .ok v w ∧ VR w F M p v := by
  obtain ⟨i, info, u, z, h1, h2, h3⟩ := partOf_spec hT h
  have hadd : ∀ j, a.add j = ⟨a.block, a.off + j, none⟩ := by
    intro j; obtain ⟨b, o, s⟩ := a; simp at ha; subst ha; unfold Addr.add; split <;> simp_all
  have hag := h2.agg
  rcases h3 with ⟨h4, l, h5, rfl⟩ | ⟨h4, h5⟩
  · obtain ⟨ys, hv, hl, hc⟩ := hr h5
    refine ⟨.agg ys.toArray, ?_, hv.agg⟩
    have hlc := run_loadCells_list (P := P) w a ys (fun j v hj => by rw [hadd]; exact hc j v hj)
    unfold loadVar
    simp only [Sem.run_bind, run_isAgg' w h2.und, Result.andThen_ok]
    rw [← hag, h4]
    simp only [if_true, Sem.run_bind, run_sizeOf' w h2.hinfo, Result.andThen_ok]
    rw [← h2.size, ← hl, hlc]
    rfl
  · obtain ⟨ys, hv, hl, hc⟩ := hr h5
    obtain ⟨y, rfl⟩ : ∃ y, ys = [y] := by
      match ys, hl with
      | [y], _ => exact ⟨y, rfl⟩
    refine ⟨y, ?_, hv.head.2⟩
    unfold loadVar
    simp only [Sem.run_bind, run_isAgg' w h2.und, Result.andThen_ok]
    rw [← hag, h4]
    simp only [Bool.false_eq_true, if_false, run_load]
    have := hc 0 y rfl
    have ha' : a = ⟨a.block, a.off + 0, none⟩ := by obtain ⟨b, o, s⟩ := a; simp at ha; subst ha; rfl
    rw [ha', this]

theorem loadAt_sound {P : Program} {T : Types} (hT : TOk P T) {hp : Hp} {w : World} {F M} (hs : HS hp w F M) {t : TypeId} {x q : PV} {v : Value} (hx : VR w F M x v) (h : loadAt T hp t x = some q) :
    ∃ y, (Instr.loadAt t v).run P w = .ok y w ∧ VR w F M q y := by
  cases hx with
  | ptr hm =>
    rename_i id off p
    unfold Ev.loadAt at h
    cases hg : hp.get id with
    | none => simp [hg] at h
    | some b =>
      simp only [hg] at h
      obtain ⟨y, h1, h2⟩ := run_loadVar (P := P) (w := w) (F := F) (M := M) hT h (a := ⟨p.b, p.sh + off, none⟩) rfl (fun hc => hs.read hg hm hc)
      exact ⟨y, by simpa [Instr.loadAt, Instr.sureAddr] using h1, h2⟩
  | ep h4 h5 =>
    rename_i cs off b o f
    obtain ⟨y, h1, h2⟩ := run_loadVar (P := P) (w := w) (F := F) (M := M) hT h (a := ⟨b, o + off, none⟩) rfl (fun hc => ep_read h4 h5 hc)
    exact ⟨y, by simpa [Instr.loadAt, Instr.sureAddr] using h1, h2⟩
  | _ => simp [Ev.loadAt] at h

/-! ### stores -/
theorem storeAt_sound {P : Program} {T : Types} (hT : TOk P T) {hp h' : Hp} {w : World} {F M} (hs : HS hp w F M) {t : TypeId} {x q : PV} {v u : Value} (hx : VR w F M x v) (hq : VR w F M q u)
    (h : storeAt T hp t x q = some h') : ∃ w', (Instr.storeAt t v u).run P w = .ok () w' ∧ HS h' w' F M ∧ Ext w w' F F M M := by
  cases hx with
  | ptr hm =>
    rename_i id off p
    unfold Ev.storeAt at h
    cases hg : hp.get id with
    | none => simp [hg] at h
    | some b =>
      simp only [hg] at h
      cases hz : sizeT T t with
      | none => simp [hz] at h
      | some sz =>
        simp only [hz] at h
        cases hc : pvCells q with
        | none => simp [hc] at h
        | some xs =>
          simp only [hc] at h
          unfold storeIn at h
          cases hb : (Nat.beq xs.length sz && Nat.ble b.frz off) with
          | false => simp [hb] at h
          | true =>
            simp only [hb] at h
            simp only [Bool.and_eq_true] at hb
            have h1 : xs.length = sz := Nat.eq_of_beq_eq_true hb.1
            have h2 : b.frz ≤ off := Nat.le_of_ble_eq_true hb.2
            cases hp' : putAt b.cells off xs with
            | none => simp [hp'] at h
            | some cs =>
              simp only [hp'] at h; cases h
              have hv := hq.cells hc
              obtain ⟨c, e, h3, h4, h5, h6⟩ := hs.set hg hm hp' h2 hv
              refine ⟨_, ?_, h5, h6⟩
              unfold sizeT at hz
              cases hti : T.get t with
              | none => simp [hti] at hz
              | some i =>
                simp only [hti] at hz; cases hz
                obtain ⟨info, ud, z, h7, _⟩ := hT.get hti
                have h8 : u.cells.size = info.size := by
                  rw [← h7.size, ← h1]; have := hv.1; simpa using this
                have h9 := run_storeCells_at (P := P) p.b (p.sh + off) e u.cells.toList 0 c w h3 (by simp at h4 ⊢; omega) (oneCells hv)
                simp only [Instr.storeAt, Instr.sureAddr, Sem.run_bind, Sem.run_pure, Result.andThen_ok, storeVar, run_sizeOf' w h7.hinfo, h8, ne_eq, not_true, if_false, Sem.run_ite]
                simpa using h9
  | _ => simp [Ev.storeAt] at h
end Go.Ev

/- Operations: numbers, texts, parts, equality. -/
namespace Go.Ev
variable [Env]

theorem wrapq_eq (k : IntKind) (n : Int) : wrapq k n = k.wrap n := by
  unfold wrapq
  split
  · have e : ((2 : Int) ^ (64 : Nat)) = 18446744073709551616 := by decide
    have e' : ((2 : Int) ^ (63 : Nat)) = 9223372036854775808 := by decide
    cases n with
    | ofNat m =>
      simp only []
      cases h : Nat.ble m 9223372036854775807 with
      | true =>
        have := Nat.le_of_ble_eq_true h
        simp only [IntKind.wrap, IntKind.bits, IntKind.signed, e, e', Nat.add_one_sub_one, Int.ofNat_eq_natCast]
        simp only [Bool.true_and, decide_eq_true_eq]
        split <;> omega
      | false => rfl
    | negSucc m =>
      simp only []
      cases h : Nat.ble m 9223372036854775807 with
      | true =>
        have := Nat.le_of_ble_eq_true h
        simp only [IntKind.wrap, IntKind.bits, IntKind.signed, e, e', Nat.add_one_sub_one]
        simp only [Bool.true_and, decide_eq_true_eq]
        split <;> omega
      | false => rfl
  · rfl

theorem ileb_eq (a b : Int) : ileb a b = decide (a ≤ b) := by
  have h : ∀ m n : Nat, Nat.ble m n = decide (m ≤ n) := fun m n => by rw [Bool.eq_iff_iff, decide_eq_true_eq, Nat.ble_eq]
  cases a <;> cases b <;> simp only [ileb, h]
  · rw [Bool.eq_iff_iff, decide_eq_true_eq, decide_eq_true_eq]; simp
  · symm; rw [decide_eq_false_iff_not]; intro h; have := Int.negSucc_lt_zero ‹Nat›; simp only [Int.ofNat_eq_natCast] at *; omega
  · symm; rw [decide_eq_true_eq]; simp only [Int.ofNat_eq_natCast] at *; have := Int.negSucc_lt_zero ‹Nat›; omega
  · rw [Bool.eq_iff_iff, decide_eq_true_eq, decide_eq_true_eq]; simp only [Int.negSucc_eq]; omega

theorem ieqb_eq (a b : Int) : ieqb a b = (a == b) := by
  rw [Bool.eq_iff_iff, beq_iff_eq]
  cases a <;> cases b <;> simp [ieqb]
  omega

theorem bytesEq_eq : ∀ (x y : List UInt8), bytesEq x y = (x == y)
  | [], [] => rfl
  | [], _ :: _ => rfl
  | _ :: _, [] => rfl
  | a :: x, b :: y => by
    unfold bytesEq
    rw [bytesEq_eq x y]
    have : (a == b) = Nat.beq a.toNat b.toNat := by
      rw [Bool.eq_iff_iff, beq_iff_eq]
      exact ⟨fun e => by subst e; exact Nat.beq_refl _, fun e => UInt8.toNat_inj.1 (Nat.eq_of_beq_eq_true e)⟩
    cases h : Nat.beq a.toNat b.toNat <;> simp [h, this, List.cons_beq_cons]

theorem bytesLt_eq : ∀ (x y : List UInt8), bytesLt x y = Op.bytesLess x y
  | [], [] => rfl
  | [], _ :: _ => rfl
  | _ :: _, [] => rfl
  | a :: x, b :: y => by
    unfold bytesLt Op.bytesLess
    rw [bytesLt_eq x y]
    have h1 : (decide (a < b)) = Nat.blt a.toNat b.toNat := by
      rw [Bool.eq_iff_iff, decide_eq_true_eq, UInt8.lt_iff_toNat_lt]; simp [Nat.blt, Nat.succ_le_iff]
    have h2 : (a == b) = Nat.beq a.toNat b.toNat := by
      rw [Bool.eq_iff_iff, beq_iff_eq]
      exact ⟨fun e => by subst e; exact Nat.beq_refl _, fun e => UInt8.toNat_inj.1 (Nat.eq_of_beq_eq_true e)⟩
    cases h : Nat.blt a.toNat b.toNat <;> cases h' : Nat.beq a.toNat b.toNat <;> simp [h1, h2, h, h']

section
variable {P : Program} {w : World}

theorem bitsN_eq (k : IntKind) (a : Int) : bitsN k a = (BitVec.ofInt k.bits a).toNat := by
  unfold bitsN
  rw [BitVec.toNat_ofInt]
  push_cast
  rfl

theorem bitGen_sound {f : Nat → Nat → Nat} {k : IntKind} {g : BitVec k.bits → BitVec k.bits → BitVec k.bits} (hg : ∀ (x y : BitVec k.bits), (g x y).toNat = f x.toNat y.toNat)
    {a b : Int} {p : PV} (h : bitGen f k a b = some p) :
    p = .v (.int k (k.wrap (g (BitVec.ofInt k.bits a) (BitVec.ofInt k.bits b)).toNat)) := by
  unfold bitGen at h
  cases h
  rw [bitsN_eq, bitsN_eq, hg]
  rfl

theorem bitBin_sound {f : Nat → Nat → Nat} {g : ∀ {n : Nat}, BitVec n → BitVec n → BitVec n} (hg : ∀ {n : Nat} (x y : BitVec n), (g x y).toNat = f x.toNat y.toNat)
    {k : IntKind} {a b : Int} {p : PV} (h : bitBin f k a b = some p) :
    p = .v (.int k (k.wrap (g (BitVec.ofInt k.bits a) (BitVec.ofInt k.bits b)).toNat)) := by
  unfold bitBin at h
  cases a with
  | negSucc _ => exact bitGen_sound (fun x y => hg x y) h
  | ofNat m =>
    cases b with
    | negSucc _ => exact bitGen_sound (fun x y => hg x y) h
    | ofNat n =>
      simp only [] at h
      cases hc : (Nat.blt m (2 ^ k.bits) && Nat.blt n (2 ^ k.bits) && !k.signed) with
      | false => simp only [hc] at h; exact bitGen_sound (fun x y => hg x y) h
      | true =>
        simp only [hc] at h; cases h
        simp only [Bool.and_eq_true, Bool.not_eq_true'] at hc
        obtain ⟨⟨h1, h2⟩, h3⟩ := hc
        have h1 : m < 2 ^ k.bits := by simpa [Nat.blt, Nat.succ_le_iff] using h1
        have h2 : n < 2 ^ k.bits := by simpa [Nat.blt, Nat.succ_le_iff] using h2
        have e1 : (BitVec.ofInt k.bits (Int.ofNat m)).toNat = m := by
          simp; exact Nat.mod_eq_of_lt h1
        have e2 : (BitVec.ofInt k.bits (Int.ofNat n)).toNat = n := by
          simp; exact Nat.mod_eq_of_lt h2
        have hb := (g (BitVec.ofInt k.bits (Int.ofNat m)) (BitVec.ofInt k.bits (Int.ofNat n))).isLt
        rw [hg, e1, e2] at hb ⊢
        congr 2
        unfold IntKind.wrap
        have hb' : ((f m n : Nat) : Int) % (2 ^ k.bits : Int) = ((f m n : Nat) : Int) := by
          apply Int.emod_eq_of_lt (by omega)
          exact_mod_cast hb
        simp only [hb', h3, Bool.false_and, Bool.false_eq_true, if_false]
        rfl

theorem intBin_sound {op : BinOp} (hs : op ≠ .shl ∧ op ≠ .shr) {k : IntKind} {t : TypeId} {a b : Int} {p : PV} (h : intBin op k a b = some p) :
    ∃ x, p = .v x ∧ flat x = true ∧ (binOp op t (.int k a) (.int k b)).run P w = .ok x w := by
  cases op <;> simp only [intBin] at h
  case add => cases h; exact ⟨_, rfl, rfl, by simp [binOp, Op.intArith, wrapq_eq]⟩
  case sub => cases h; exact ⟨_, rfl, rfl, by simp [binOp, Op.intArith, wrapq_eq]⟩
  case mul => cases h; exact ⟨_, rfl, rfl, by simp [binOp, Op.intArith, wrapq_eq]⟩
  case quo =>
    cases hb : ieqb b 0 with
    | true => simp [hb] at h
    | false =>
      simp only [hb] at h; cases h
      rw [ieqb_eq] at hb
      have hb : b ≠ 0 := by simpa using hb
      exact ⟨_, rfl, rfl, by simp [binOp, Op.intDiv, hb, wrapq_eq]⟩
  case rem =>
    cases hb : ieqb b 0 with
    | true => simp [hb] at h
    | false =>
      simp only [hb] at h; cases h
      rw [ieqb_eq] at hb
      have hb : b ≠ 0 := by simpa using hb
      exact ⟨_, rfl, rfl, by simp [binOp, Op.intDiv, hb]⟩
  case eql => cases h; exact ⟨_, rfl, rfl, by simp [binOp, Op.intCmp, ieqb_eq]⟩
  case neq => cases h; exact ⟨_, rfl, rfl, by simp [binOp, Op.intCmp, ieqb_eq, bne]⟩
  case lss => cases h; exact ⟨_, rfl, rfl, by simp only [binOp, Op.intCmp, ileb_eq]; simp [← Int.not_le]⟩
  case leq => cases h; exact ⟨_, rfl, rfl, by simp [binOp, Op.intCmp, ileb_eq]⟩
  case gtr => cases h; exact ⟨_, rfl, rfl, by simp only [binOp, Op.intCmp, ileb_eq]; simp [← Int.not_le]⟩
  case geq => cases h; exact ⟨_, rfl, rfl, by simp [binOp, Op.intCmp, ileb_eq]⟩
  case and => exact ⟨_, bitBin_sound (g := fun x y => x &&& y) (fun x y => by simp [BitVec.toNat_and]) h, rfl, by simp [binOp, Op.intBits]⟩
  case or => exact ⟨_, bitBin_sound (g := fun x y => x ||| y) (fun x y => by simp [BitVec.toNat_or]) h, rfl, by simp [binOp, Op.intBits]⟩
  case xor => exact ⟨_, bitBin_sound (g := fun x y => x ^^^ y) (fun x y => by simp [BitVec.toNat_xor]) h, rfl, by simp [binOp, Op.intBits]⟩
  case andNot => exact ⟨_, bitGen_sound (g := fun x y => x &&& ~~~y) (fun x y => by simp [BitVec.toNat_and, BitVec.toNat_not, andNot]) h, rfl, by simp [binOp, Op.intBits]⟩
  all_goals simp at h

theorem shiftq_sound {op : BinOp} {k k' : IntKind} {t : TypeId} {a b : Int} {p : PV} (h : shiftq op k a b = some p) :
    ∃ x, p = .v x ∧ flat x = true ∧ (binOp op t (.int k a) (.int k' b)).run P w = .ok x w := by
  unfold shiftq at h
  cases b with
  | negSucc _ => simp at h
  | ofNat n =>
    simp only [] at h
    have hn : ¬ ((Int.ofNat n) < 0) := by simp
    cases op <;> simp only [reduceCtorEq] at h
    case shl => cases h; exact ⟨_, rfl, rfl, by simp only [binOp, Op.shift, hn, if_false, Sem.run_pure]; rfl⟩
    case shr =>
      cases a with
      | negSucc m =>
        simp only [] at h; cases h
        refine ⟨_, rfl, rfl, ?_⟩
        simp only [binOp, Op.shift, hn, if_false, Sem.run_pure]
        have : (Int.negSucc m).fdiv (2 ^ (min n k.bits)) = Int.negSucc (m / 2 ^ (min n k.bits)) := by
          have h2 : ((2 : Int) ^ (min n k.bits)) = Int.ofNat (2 ^ (min n k.bits)) := by simp
          rw [h2]
          generalize hx : 2 ^ (min n k.bits) = q
          cases q with
          | zero => exact absurd hx (Nat.ne_of_gt (Nat.two_pow_pos _))
          | succ q => rfl
        simpa using this
      | ofNat m =>
        simp only [] at h; cases h
        refine ⟨_, rfl, rfl, ?_⟩
        simp only [binOp, Op.shift, hn, if_false, Sem.run_pure]
        have : (Int.ofNat m).fdiv (2 ^ (min n k.bits)) = Int.ofNat (m / 2 ^ (min n k.bits)) := by
          rw [Int.fdiv_eq_ediv_of_nonneg _ (by exact_mod_cast Nat.zero_le _)]
          rfl
        simpa using this

theorem strBin_sound {op : BinOp} {t : TypeId} {a b : ByteArray} {p : PV} (h : strBin op a b = some p) :
    ∃ x, p = .v x ∧ flat x = true ∧ (binOp op t (.string a) (.string b)).run P w = .ok x w := by
  have hx : ∀ (x y : ByteArray), (x.toList == y.toList) = bytesEq x.data.toList y.data.toList := fun x y => by rw [ByteArray.toList_eq, ByteArray.toList_eq, bytesEq_eq]
  have hl : ∀ (x y : ByteArray), Op.bytesLess x.toList y.toList = bytesLt x.data.toList y.data.toList := fun x y => by rw [ByteArray.toList_eq, ByteArray.toList_eq, bytesLt_eq]
  cases op <;> simp only [strBin] at h
  case add =>
    cases hc : Nat.ble (a.data.toList.length + b.data.toList.length) 9223372036854775807 with
    | false => simp only [hc] at h; cases h
    | true =>
      simp only [hc] at h; cases h
      have hc := Nat.le_of_ble_eq_true hc
      refine ⟨_, rfl, rfl, ?_⟩
      have h1 : ¬ (((a.size + b.size : Nat) : Int) > IntKind.i64.max) := by
        have e : IntKind.i64.max = 9223372036854775807 := by decide
        rw [e]
        have e1 : a.data.toList.length = a.size := Array.length_toList
        have e2 : b.data.toList.length = b.size := Array.length_toList
        omega
      simp only [binOp, Op.stringOp, h1, if_false, Sem.run_pure]
      congr 2
  case eql => cases h; exact ⟨_, rfl, rfl, by simp only [binOp, Op.stringOp, hx, Sem.run_pure]⟩
  case neq => cases h; exact ⟨_, rfl, rfl, by simp only [binOp, Op.stringOp, hx, Sem.run_pure]⟩
  case lss => cases h; exact ⟨_, rfl, rfl, by simp only [binOp, Op.stringOp, hl, Sem.run_pure]⟩
  case leq => cases h; exact ⟨_, rfl, rfl, by simp only [binOp, Op.stringOp, hx, hl, Sem.run_pure]⟩
  case gtr => cases h; exact ⟨_, rfl, rfl, by simp only [binOp, Op.stringOp, hx, hl, Sem.run_pure]⟩
  case geq => cases h; exact ⟨_, rfl, rfl, by simp only [binOp, Op.stringOp, hl, Sem.run_pure]⟩
  all_goals simp at h
end
end Go.Ev

/- Operations: parts of structs and arrays, equality, literals, addresses. -/
namespace Go.Ev
variable [Env]
section
variable {P : Program} {T : Types} {w : World} {F : Fz} {M : Mp}

theorem part_sound (hT : TOk P T) {t : TypeId} {cs : List PV} {ys : List Value} (hv : VL w F M cs ys) {off : Nat} {p : PV} (h : partOf T t cs off = some p) :
    ∃ v, (part t ys.toArray off).run P w = .ok v w ∧ VR w F M p v := by
  obtain ⟨i, info, u, z, h1, h2, h3⟩ := partOf_spec hT h
  have hag := h2.agg
  rcases h3 with ⟨h4, l, h5, rfl⟩ | ⟨h4, h5⟩
  · obtain ⟨h6, h7⟩ := cut_spec h5
    refine ⟨.agg ((ys.drop off).take i.size).toArray, ?_, ?_⟩
    · unfold part
      simp only [Sem.run_bind, run_isAgg' w h2.und, Result.andThen_ok]
      rw [← hag, h4]
      simp only [if_true, Sem.run_bind, run_sizeOf' w h2.hinfo, Result.andThen_ok, Sem.run_pure]
      rw [← h2.size]
      congr 2
      apply Array.ext'
      simp [List.extract_eq_take_drop]
    · rw [h6]; exact ((hv.drop off).take i.size).agg
  · obtain ⟨h6, h7⟩ := cut_spec h5
    have hlt : off < cs.length := by omega
    have hy : off < ys.length := by rw [hv.1]; exact hlt
    have h8 : cs[off]? = some p := by
      have : (cs.drop off)[0]? = some p := by
        have h9 : ((cs.drop off).take 1)[0]? = some p := by rw [← h6]; rfl
        rw [List.getElem?_take, if_pos (by omega)] at h9; exact h9
      simpa using this
    refine ⟨ys[off], ?_, (hv.2 off p _ h8 (List.getElem?_eq_getElem hy)).2⟩
    unfold part
    simp only [Sem.run_bind, run_isAgg' w h2.und, Result.andThen_ok]
    rw [← hag, h4]
    simp [hy]

theorem agg_inv {cs : List PV} {v : Value} (h : VR w F M (.agg cs) v) : ∃ ys : List Value, v = .agg ys.toArray ∧ VL w F M cs ys := by
  cases h with
  | agg hl hc hr => exact ⟨_, rfl, hl, fun i c y h1 h2 => ⟨hc i c h1, hr i c y h1 h2⟩⟩

/-- equality, by type -/
theorem eqT_sound (hT : TOk P T) : ∀ (n d : Nat), n ≤ d → ∀ {t : TypeId} {x y : PV} {v u : Value} {r : Bool}, VR w F M x v → VR w F M y u → eqT T n t x y = some r →
    (Op.equalIn d t v u).run P w = .ok r w
  | 0, _, _, _, _, _, _, _, _, _, _, h => by simp [eqT] at h
  | n + 1, 0, hd, _, _, _, _, _, _, _, _, _ => by omega
  | n + 1, d + 1, hd, t, x, y, v, u, r, hx, hy, h => by
    have ih : ∀ {t : TypeId} {x y : PV} {v u : Value} {r : Bool}, VR w F M x v → VR w F M y u → eqT T n t x y = some r → (Op.equalIn d t v u).run P w = .ok r w := fun h1 h2 h3 => eqT_sound hT n d (by omega) h1 h2 h3
    unfold eqT at h
    cases hi : T.get t with
    | none => simp [hi] at h
    | some i =>
      obtain ⟨info, ud, z, hs, _⟩ := hT.get hi
      simp only [hi] at h
      split at h
      · rename_i hk
        obtain rfl := hs.k6 hk
        split at h
        · rename_i k1 a k2 b
          cases hx; cases hy
          by_cases he : k1 = k2
          · subst he
            simp only [decide_true] at h; cases h
            rw [run_equalIn_int w d t k1 i.ik a b hs.und, ieqb_eq]
          · simp [he] at h
        · cases h
      · rename_i hk
        obtain rfl := hs.k7 hk
        split at h
        · cases hx; cases hy; cases h
          exact run_equalIn_bool w d t _ _ hs.und
        · cases h
      · rename_i hk
        obtain rfl := hs.k4 hk
        split at h
        · cases hx; cases hy; cases h
          rw [run_equalIn_string w d t _ _ hs.und, ByteArray.toList_eq, ByteArray.toList_eq, bytesEq_eq]
        · split at h
          · rename_i hab
            simp only [Bool.and_eq_true] at hab
            have := Nat.eq_of_beq_eq_true hab.1
            subst this
            cases hx; cases hy; cases h
            rw [Env.val_str hab.2, run_equalIn_string w d t _ _ hs.und]
            simp
          · cases h
        · cases h
      · rename_i hk
        obtain ⟨fs, rfl, hf, he⟩ := hs.k3 hk
        cases hq : i.eqok with
        | false => simp [hq] at h
        | true =>
          simp only [hq] at h
          obtain ⟨hp, hn⟩ := he hq
          split at h
          · rename_i cs ds
            obtain ⟨ys, rfl, hv⟩ := agg_inv hx
            obtain ⟨zs, rfl, hv'⟩ := agg_inv hy
            have hfo : P.fieldsOf t = fs := by simp [Program.fieldsOf, hs.und]
            rw [run_equalIn_struct w d t _ _ (by rw [hfo]; exact hs.und) hp, hfo]
            rw [hf] at h
            have hn' : ∀ f ∈ fs.toList, f.name ≠ "_" := fun f hf' => hn f (by simpa using hf')
            generalize fs.toList = l at h hn'
            clear hf hfo hs hn
            induction l generalizing r with
            | nil => simp only [List.map_nil, eqT.eqFs, Option.some.injEq] at h; subst h; simp [Op.eqFields]
            | cons f l ihl =>
              simp only [List.map_cons, eqT.eqFs] at h
              cases h1 : partOf T f.type cs f.offset with
              | none => simp [h1] at h
              | some p =>
                cases h2 : partOf T f.type ds f.offset with
                | none => simp [h1, h2] at h
                | some q =>
                  cases h3 : eqT T n f.type p q with
                  | none => simp [h1, h2, h3] at h
                  | some b =>
                    obtain ⟨v1, hr1, hv1⟩ := part_sound hT hv h1
                    obtain ⟨v2, hr2, hv2⟩ := part_sound hT hv' h2
                    have hr3 := ih hv1 hv2 h3
                    simp only [h1, h2, h3] at h
                    simp only [Op.eqFields, ne_eq, hn' f (List.mem_cons_self), not_false_eq_true, if_true, Sem.run_bind, hr1, hr2, hr3, Result.andThen_ok]
                    cases b with
                    | false => cases h; simp
                    | true =>
                      simp only [Bool.not_true, Bool.false_eq_true, if_false]
                      exact ihl r h (fun g hg => hn' g (List.mem_cons_of_mem _ hg))
          · cases h
      · rename_i hk
        obtain rfl := hs.k2 hk
        split at h
        · rename_i cs ds
          obtain ⟨ys, rfl, hv⟩ := agg_inv hx
          obtain ⟨zs, rfl, hv'⟩ := agg_inv hy
          unfold sizeT at h
          cases hj : T.get i.elem with
          | none => simp [hj] at h
          | some j =>
            obtain ⟨jinfo, ju, jz, js, _⟩ := hT.get hj
            simp only [hj] at h
            rw [run_equalIn_array w d _ _ hs.und js.hinfo]
            have hcell : P.cellsOf i.elem = j.size := by rw [js.size]; simp [Program.cellsOf, js.hinfo]
            rw [hcell]
            rw [List.range_eq_range']
            generalize i.alen = m at h
            generalize 0 = k at h
            induction m generalizing k r with
            | zero => simp only [eqT.eqEs, Option.some.injEq] at h; subst h; simp [Op.eqItems]
            | succ m ihm =>
              simp only [eqT.eqEs] at h
              cases h1 : partOf T i.elem cs (k * j.size) with
              | none => simp [h1] at h
              | some p =>
                cases h2 : partOf T i.elem ds (k * j.size) with
                | none => simp [h1, h2] at h
                | some q =>
                  cases h3 : eqT T n i.elem p q with
                  | none => simp [h1, h2, h3] at h
                  | some b =>
                    obtain ⟨v1, hr1, hv1⟩ := part_sound hT hv h1
                    obtain ⟨v2, hr2, hv2⟩ := part_sound hT hv' h2
                    have hr3 := ih hv1 hv2 h3
                    simp only [h1, h2, h3] at h
                    simp only [List.range'_succ, Op.eqItems, Sem.run_bind, hr1, hr2, hr3, Result.andThen_ok]
                    cases b with
                    | false => cases h; simp
                    | true =>
                      simp only [Bool.not_true, Bool.false_eq_true, if_false]
                      exact ihm r (k + 1) h
        · cases h
      · cases h
end
end Go.Ev

/- Operations: the ones that make values, addresses and blocks. -/
namespace Go.Ev
variable [Env]
section
variable {P : Program} {T : Types} {w : World} {F : Fz} {M : Mp} {hp : Hp}

theorem foldl_put : ∀ (xs : List Value) (off i : Nat) (cs : Array Value), off + i + xs.length ≤ cs.size →
    ((xs.zipIdx i).foldl (fun cs (c, j) => cs.setIfInBounds (off + j) c) cs).toList = cs.toList.take (off + i) ++ xs ++ cs.toList.drop (off + i + xs.length)
  | [], off, i, cs, h => by simp
  | x :: xs, off, i, cs, h => by
    have hlt : off + i < cs.size := by simp at h; omega
    rw [List.zipIdx_cons, List.foldl_cons, foldl_put xs off (i + 1) _ (by simp at h ⊢; omega)]
    simp only [Array.toList_setIfInBounds, List.length_cons]
    have h1 : (cs.toList.set (off + i) x).take (off + (i + 1)) = cs.toList.take (off + i) ++ [x] := by
      rw [show off + (i + 1) = off + i + 1 by omega, List.take_succ_eq_append_getElem (by simpa using hlt)]
      simp [List.take_set_of_le]
    have h2 : (cs.toList.set (off + i) x).drop (off + (i + 1) + xs.length) = cs.toList.drop (off + i + (xs.length + 1)) := by
      rw [List.drop_set_of_lt (by omega)]
      congr 1; omega
    rw [h1, h2]
    simp

theorem fill_sound {place : Nat → Option (Nat × Nat)} : ∀ {ps : List (Nat × PV)} {vs : List (Nat × Value)} {cs cs' : List PV} {ys : Array Value},
    vs.length = ps.length → (∀ (i : Nat) p v, ps[i]? = some p → vs[i]? = some v → v.1 = p.1 ∧ VR w F M p.2 v.2) → VL w F M cs ys.toList → fillP place cs ps = some cs' →
    ∃ zs, Instr.fill place ys vs = some zs ∧ VL w F M cs' zs.toList
  | [], [], cs, cs', ys, _, _, hv, h => by simp [fillP] at h; subst h; exact ⟨ys, rfl, hv⟩
  | [], _ :: _, _, _, _, h, _, _, _ => by simp at h
  | _ :: _, [], _, _, _, h, _, _, _ => by simp at h
  | (i, x) :: ps, (j, u) :: vs, cs, cs', ys, hl, hr, hv, h => by
    obtain ⟨hij, hxu⟩ := hr 0 _ _ rfl rfl
    simp only at hij hxu; subst hij
    unfold fillP at h
    unfold Instr.fill
    cases hp : place j with
    | none => simp [hp] at h
    | some os =>
      obtain ⟨off, size⟩ := os
      simp only [hp] at h ⊢
      cases hc : pvCells x with
      | none => simp [hc] at h
      | some xs =>
        simp only [hc] at h
        cases hb : Nat.beq xs.length size with
        | false => simp [hb] at h
        | true =>
          simp only [hb] at h
          have hlen : xs.length = size := Nat.eq_of_beq_eq_true hb
          cases hq : putAt cs off xs with
          | none => simp [hq] at h
          | some cs1 =>
            simp only [hq] at h
            have hxs := hxu.cells hc
            obtain ⟨h1, h2⟩ := putAt_spec hq
            have hu : u.cells.size = xs.length := by have := hxs.1; simpa using this
            have hy : ys.size = cs.length := by have := hv.1; simpa using this
            have hno : ¬ (u.cells.size ≠ size ∨ off + u.cells.size > ys.size) := by
              rw [hu, hy, hlen]; rw [hlen] at h1; omega
            have hno' : (decide (u.cells.size ≠ size) || decide (off + u.cells.size > ys.size)) = false := by
              simpa using hno
            simp only [hno', Bool.false_eq_true, if_false]
            refine fill_sound (by simpa using hl) (fun k p v h3 h4 => hr (k + 1) p v (by simpa using h3) (by simpa using h4)) ?_ h
            have hfold : (u.cells.zipIdx.foldl (fun cs (c, j) => cs.setIfInBounds (off + j) c) ys).toList = ys.toList.take off ++ u.cells.toList ++ ys.toList.drop (off + u.cells.toList.length) := by
              have := foldl_put u.cells.toList off 0 ys (by simp; omega)
              simp only [Nat.add_zero] at this
              rw [← this]
              congr 1
              rw [← Array.foldl_toList]
              simp
            rw [hfold, h2]
            have hxl : u.cells.toList.length = xs.length := hxs.1
            rw [hxl]
            exact ((hv.take off).append hxs).append (hv.drop _)
end
end Go.Ev

/- Operations: each one, as it stands in the code. -/
namespace Go.Ev
variable [Env]
section
variable {P : Program} {T : Types} {w : World} {F : Fz} {M : Mp} {hp : Hp}

theorem rep_length (zs : List Value) : ∀ c, (rep zs c).length = c * zs.length
  | 0 => by simp [rep]
  | c + 1 => by simp [rep, rep_length zs c, Nat.add_mul]; omega

theorem rep_get (zs : List Value) (hz : 0 < zs.length) : ∀ (c k : Nat), k < c * zs.length → (rep zs c)[k]? = (zs[k % zs.length]?).map PV.v
  | 0, k, h => by simp at h
  | c + 1, k, h => by
    unfold rep
    by_cases hk : k < zs.length
    · rw [List.getElem?_append_left (by simpa using hk), Nat.mod_eq_of_lt hk]; simp
    · rw [List.getElem?_append_right (by simpa using hk)]
      simp only [List.length_map]
      rw [rep_get zs hz c (k - zs.length) (by rw [Nat.add_mul] at h; omega)]
      rw [← Nat.mod_eq_sub_mod (Nat.le_of_not_lt hk)]

theorem made_VL {zs : Array Value} {s : Nat} (hz : zeroOk zs.toList = true) (hs : zs.toList.length = s) (h1 : 1 ≤ s) (c : Nat) : VL w F M (rep zs.toList c) (madeCells zs (c * s)).toList := by
  subst hs
  refine ⟨by simp [rep_length, madeCells], fun k p y h2 h3 => ?_⟩
  have hk : k < c * zs.toList.length := by
    have := (List.getElem?_eq_some_iff.1 h2).1; rw [rep_length] at this; exact this
  rw [rep_get _ h1 c k hk] at h2
  have hm : k % zs.toList.length < zs.toList.length := Nat.mod_lt _ h1
  have hzv : VL w F M (zs.toList.map .v) zs.toList := zero_VL hz
  have h4 : (zs.toList.map PV.v)[k % zs.toList.length]? = some p := by simpa using h2
  have h5 : zs.toList[k % zs.toList.length]? = some y := by
    simp only [madeCells] at h3
    have hk' : k < c * zs.size := by simpa using hk
    simp [hk'] at h3
    rw [← h3]
    have hm' : k % zs.size < zs.size := by simpa using hm
    simp [hm']
  exact hzv.2 _ _ _ h4 h5

theorem newVar_run (t : TypeId) (ys : Array Value) : (Go.newRow t ys).run P w = .ok ⟨w.heap.size, 0, none⟩ (w.alloc (.cells ys t)) := rfl

/-- a new block was made, and nothing else was done -/
def GoodA (w : World) (F : Fz) (M : Mp) (res : Result Value) (p : PV) (hp h : Hp) : Prop :=
  ∃ (cs : List PV) (ys : Array Value) (t : TypeId) (sz : Nat) (v : Value), h = hp.new ⟨cs, sz, false, 0, t⟩ ∧ VL w F M cs ys.toList ∧ res = .ok v (w.alloc (.cells ys t)) ∧
    ∀ (w' : World) (F' : Fz) (M' : Mp), M' hp.next = some ⟨w.heap.size, 0, cs.length, ys.size, sz, false⟩ → VR w' F' M' p v

theorem GoodA.goodV {res : Result Value} {p : PV} {h : Hp} (hs : HS hp w F M) (g : GoodA w F M res p hp h) : GoodV w F M res p h := by
  obtain ⟨cs, ys, t, sz, v, rfl, hv, hr, hvr⟩ := g
  have h := hs.new cs ys.toList [] t sz false 0 hv
  simp only [List.append_nil, Array.toArray_toList, Array.length_toList] at h
  exact ⟨_, _, v, hr, hvr _ _ _ (Mp.up_self _ _ _), h.1, h.2⟩

theorem alloc_sound (hT : TOk P T) {t : TypeId} {p : PV} {h : Hp} (e : primAlloc T hp t = some (p, h)) : GoodA w F M ((Instr.alloc t true (.tuple #[])).run P w) p hp h := by
  unfold primAlloc at e
  cases hi : T.get t with
  | none => simp [hi] at e
  | some i =>
    simp only [hi] at e; cases e
    obtain ⟨info, u, z, hz, hzo⟩ := hT.get hi
    rw [hz.cells] at hzo
    refine ⟨i.zero.map .v, z.cells, t, i.size, .pointer (some ⟨w.heap.size, 0, none⟩), rfl, by rw [hz.cells]; exact zero_VL hzo, ?_, fun w' F' M' h4 => by simpa using VR.ptr (off := 0) h4⟩
    simp only [Instr.alloc, Sem.run_bind, run_zeroValue' w hz.hinfo hz.hzero, Result.andThen_ok, newVar, newVar_run, Sem.run_pure]

theorem box_sound {t : TypeId} {x : Option PV} {v : Value} (hx : ∀ q, x = some q → VR w F M q v) {p : PV} {h : Hp} (e : primBox T hp t x = some (p, h)) :
    GoodA w F M ((Instr.box t v).run P w) p hp h := by
  unfold primBox at e
  cases hi : T.get t with
  | none => simp [hi] at e
  | some i =>
    cases x with
    | none => simp [hi] at e
    | some q =>
      simp only [hi] at e
      unfold boxOf at e
      cases hc : pvCells q with
      | none => simp [hc] at e
      | some xs =>
        simp only [hc] at e
        cases hb : Nat.beq xs.length i.size with
        | false => simp [hb] at e
        | true =>
          simp only [hb] at e; cases e
          have hv := (hx q rfl).cells hc
          exact ⟨xs, v.cells, t, i.size, .pointer (some ⟨w.heap.size, 0, none⟩), rfl, hv, by simp [Instr.box, newVar, newVar_run], fun w' F' M' h4 => by simpa using VR.ptr (off := 0) h4⟩

theorem parts_sound {tm : Tm} {a : Act} (ht : TS tm a w F M) : ∀ {parts : List (Nat × Operand)} {ps : List (Nat × PV)}, partsOf parts tm = some ps →
    (parts.map fun (i, x) => (i, a.eval x)).length = ps.length ∧ ∀ (i : Nat) p v, ps[i]? = some p → (parts.map fun (i, x) => (i, a.eval x))[i]? = some v → v.1 = p.1 ∧ VR w F M p.2 v.2
  | [], ps, h => by cases h; exact ⟨rfl, fun i p v h => by simp at h⟩
  | (j, x) :: r, ps, h => by
    unfold partsOf consP at h
    cases h1 : Ev.opd x tm with
    | none => simp [h1] at h
    | some q =>
      cases h2 : partsOf r tm with
      | none => simp [h1, h2] at h
      | some l =>
        simp only [h1, h2] at h; cases h
        obtain ⟨h3, h4⟩ := parts_sound ht h2
        refine ⟨by simp at h3 ⊢; exact h3, fun i p v hp hv => ?_⟩
        cases i with
        | zero => simp at hp hv; subst hp; subst hv; exact ⟨rfl, ht.opd h1⟩
        | succ i => simp only [List.getElem?_cons_succ, List.map_cons] at hp hv; exact h4 i p v hp hv

theorem build_sound (hT : TOk P T) {tm : Tm} {a : Act} (ht : TS tm a w F M) {t : TypeId} {parts : Array (Nat × Operand)} {p : PV} {h : Hp}
    (e : primBuild T hp t (partsOf parts.toList tm) = some (p, h)) : GoodQ w F M ((Instr.build t (parts.map fun (i, x) => (i, a.eval x))).run P w) p hp h := by
  unfold primBuild at e
  cases hi : T.get t with
  | none => simp [hi] at e
  | some i =>
    cases hps : partsOf parts.toList tm with
    | none => simp [hi, hps] at e
    | some ps =>
      simp only [hi, hps] at e
      obtain ⟨info, u, z, hz, hzo⟩ := hT.get hi
      obtain ⟨h1, h2⟩ := parts_sound ht hps
      have hzv : VL w F M (i.zero.map .v) z.cells.toList := by rw [hz.cells]; rw [hz.cells] at hzo; exact zero_VL hzo
      unfold buildOf at e
      have hpl : ((parts.map fun (x : Nat × Operand) => (x.1, a.eval x.2)).toList) = parts.toList.map fun x => (x.1, a.eval x.2) := by simp
      cases hk : Nat.beq i.kind 3 with
      | true =>
        simp only [hk] at e
        obtain ⟨fs, rfl, hf, _⟩ := hz.k3 (Nat.eq_of_beq_eq_true hk)
        cases hfill : fillP (placeS T i) (i.zero.map .v) ps with
        | none => simp [hfill, aggOf] at e
        | some cs =>
          simp only [hfill, aggOf] at e; cases e
          have hall : ∀ f ∈ fs.toList, ∃ j jinfo ju jz, T.get f.type = some j ∧ TySpec P f.type j jinfo ju jz := fun f hf' => by
            obtain ⟨j, hj⟩ := hT.fields t i hi (Nat.eq_of_beq_eq_true hk) (f.offset, f.type) (by rw [hf]; exact List.mem_map.2 ⟨f, hf', rfl⟩)
            obtain ⟨jinfo, ju, jz, js, _⟩ := hT.get hj
            exact ⟨j, jinfo, ju, jz, hj, js⟩
          have hmap : ∀ (l : List Field), (∀ f ∈ l, ∃ j jinfo ju jz, T.get f.type = some j ∧ TySpec P f.type j jinfo ju jz) →
              ∃ r : List (Nat × Nat), (l.mapM fun (f : Field) => (do pure (f.offset, ← sizeOf f.type) : Sem (Nat × Nat))).run P w = .ok r w ∧
                ∀ k : Nat, r[k]? = (match ((l.map fun (f : Field) => ((f.offset, f.type) : Nat × Nat))[k]? : Option (Nat × Nat)) with | none => none | some (off, ft) => match sizeT T ft with | none => none | some s => some (off, s) : Option (Nat × Nat)) := by
            intro l hl
            induction l with
            | nil => exact ⟨[], by simp, fun k => by simp⟩
            | cons f l ih =>
              obtain ⟨r, hr, hr'⟩ := ih (fun g hg => hl g (List.mem_cons_of_mem _ hg))
              obtain ⟨j, jinfo, ju, jz, hj, js⟩ := hl f List.mem_cons_self
              refine ⟨(f.offset, jinfo.size) :: r, ?_, fun k => ?_⟩
              · rw [List.mapM_cons]
                simp only [Sem.run_bind, run_sizeOf' w js.hinfo, Result.andThen_ok, Sem.run_pure, hr]
              · cases k with
                | zero => simp [sizeT, hj, js.size]
                | succ k => simpa using hr' k
          obtain ⟨r, hr, hr'⟩ := hmap fs.toList hall
          obtain ⟨zs, h5, h6⟩ := fill_sound (w := w) (F := F) (M := M) h1 h2 hzv hfill
          have hpe : placeS T i = (r.toArray[·]?) := by
            funext k
            rw [List.getElem?_toArray, hr' k, ← hf]
            rfl
          refine ⟨rfl, .agg zs, ?_, by simpa using h6.agg⟩
          simp only [Instr.build, Sem.run_bind, run_zeroValue' w hz.hinfo hz.hzero, Result.andThen_ok, run_underlying hz.und]
          rw [Array.mapM_eq_mapM_toList]
          simp only [Sem.run_map, hr, Result.andThen_ok, hpl]
          rw [← hpe, h5]
          rfl
      | false =>
        simp only [hk] at e
        cases hk2 : Nat.beq i.kind 2 with
        | false => simp [hk2] at e
        | true =>
          simp only [hk2] at e
          obtain rfl := hz.k2 (Nat.eq_of_beq_eq_true hk2)
          unfold sizeT at e
          cases hj : T.get i.elem with
          | none => simp [hj] at e
          | some j =>
            obtain ⟨jinfo, ju, jz, js, _⟩ := hT.get hj
            simp only [hj] at e
            cases hfill : fillP (placeA j.size) (i.zero.map .v) ps with
            | none => simp [hfill, aggOf] at e
            | some cs =>
              simp only [hfill, aggOf] at e; cases e
              obtain ⟨zs, h5, h6⟩ := fill_sound (w := w) (F := F) (M := M) h1 h2 hzv hfill
              refine ⟨rfl, .agg zs, ?_, by simpa using h6.agg⟩
              simp only [Instr.build, Sem.run_bind, run_zeroValue' w hz.hinfo hz.hzero, Result.andThen_ok, run_underlying hz.und, run_sizeOf' w js.hinfo, hpl]
              rw [← js.size]
              have : (fun k => some (k * j.size, j.size)) = placeA j.size := rfl
              rw [this, h5]
              rfl
end
end Go.Ev
