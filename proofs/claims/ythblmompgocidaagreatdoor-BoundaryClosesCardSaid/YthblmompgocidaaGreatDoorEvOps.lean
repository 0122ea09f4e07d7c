/- Each operation that enters no function does in the world what the evaluator says. -/
import Derived.Test.YthblmompgocidaaGreatDoorEvRel
import Derived.Laws.Entries
import Derived.ChangeKeysEq
import Derived.Laws.StructEq
import Derived.Laws.Pointers
import Derived.Laws.Cover3
import Derived.Laws.MakeOwn
import Derived.Lib.Strings
import Derived.LaidEql
import Derived.Laws.BytesArg
import Derived.Lib.Builder
import Derived.MapKept
import Derived.Laws.IdiomRangeMap
import Derived.Lib.UnsafeStr
set_option linter.all false
/- Each operation that enters no function does in the world what the evaluator says. -/
namespace Go.Ev
variable [Env]

structure TOk (P : Program) (T : Types) : Prop where
  ty : ∀ t i, T.get t = some i → mkTy P t = some i ∧ zeroOk i.zero = true
  fields : ∀ t i, T.get t = some i → i.kind = 3 → ∀ x ∈ i.fields, ∃ j, T.get x.2 = some j

/-- what mkTy tells -/
structure TySpec (P : Program) (t : TypeId) (i : TyI) (info : TypeInfo) (u : TypeDesc) (z : Value) : Prop where
  hinfo : P.info? t = some info
  und : P.underlying t = some u
  hzero : info.zero = some z
  size : i.size = info.size
  bytes : i.bytes = info.bytes
  cells : i.zero = z.cells.toList
  agg : i.isAgg = (match u with | .struct _ | .array _ _ => true | _ => false)
  k1 : i.kind = 1 → u = .slice i.elem
  k2 : i.kind = 2 → u = .array i.alen i.elem
  k3 : i.kind = 3 → ∃ fs, u = .struct fs ∧ i.fields = fs.toList.map (fun f => (f.offset, f.type)) ∧ (i.eqok = true → P.stoodInHeld t = false ∧ ∀ f ∈ fs, f.name ≠ "_")
  k4 : i.kind = 4 → u = .string
  k5 : i.kind ≠ 5 → ∀ ms, u ≠ .interface ms
  k6 : i.kind = 6 → u = .int i.ik
  k7 : i.kind = 7 → u = .bool
  k8 : i.kind = 8 → u = .pointer i.elem
  k9 : i.kind = 9 → u = .map i.alen i.elem ∧ zForm P i.elem = true
  k10 : i.kind = 10 → u = .unsafePointer
  eqg : (i.kind = 2 ∨ i.kind = 3) → i.eqok = true → P.eqGuardType P.depth t = false

theorem mkTy_spec {P : Program} {t : TypeId} {i : TyI} (h : mkTy P t = some i) : ∃ info u z, TySpec P t i info u z := by
  unfold mkTy at h
  cases h1 : P.info? t with
  | none => simp [h1] at h
  | some info =>
    cases h2 : P.underlying t with
    | none => simp [h1, h2] at h
    | some u =>
      cases h3 : info.zero with
      | none => simp [h1, h2, h3] at h
      | some z =>
        refine ⟨info, u, z, ?_⟩
        simp only [h1, h2, h3] at h
        cases u
        case map k e =>
          simp only [] at h
          cases hz : zForm P e with
          | false => simp [hz] at h
          | true =>
            simp only [hz, Option.some.injEq] at h; subst h
            exact ⟨h1, h2, h3, rfl, rfl, rfl, rfl, by simp, by simp, by simp, by simp, by simp, by simp, by simp, by simp, fun _ => ⟨rfl, hz⟩, by simp, by simp⟩
        all_goals (simp only [Option.some.injEq] at h; subst h)
        case struct fs =>
          refine ⟨h1, h2, h3, rfl, rfl, rfl, rfl, by simp, by simp, ?_, by simp, by simp, by simp, by simp, by simp, by simp, by simp, by simp (config := { contextual := true })⟩
          intro _
          refine ⟨fs, rfl, rfl, fun he => ?_⟩
          simp only [Bool.and_eq_true, List.all_eq_true, Bool.not_eq_true'] at he
          exact ⟨he.1.2, fun f hf => by simpa using he.2 f (by simpa using hf)⟩
        all_goals exact ⟨h1, h2, h3, rfl, rfl, rfl, rfl, by simp, by simp, by simp (config := { contextual := true }), by simp, by simp, by simp, by simp, by simp, by simp, by simp, by simp (config := { contextual := true })⟩

theorem TOk.get {P : Program} {T : Types} (hT : TOk P T) {t : TypeId} {i : TyI} (h : T.get t = some i) : ∃ info u z, TySpec P t i info u z ∧ zeroOk i.zero = true := by
  obtain ⟨h1, h2⟩ := hT.ty t i h
  obtain ⟨info, u, z, h3⟩ := mkTy_spec h1
  exact ⟨info, u, z, h3, h2⟩

theorem zero_VL {w F M} : ∀ {zs : List Value}, zeroOk zs = true → VL w F M (zs.map .v) zs
  | [], _ => VL.nil
  | x :: l, h => by
    simp only [zeroOk, Bool.and_eq_true] at h
    exact VL.cons h.1.2 (.v h.1.1) (zero_VL h.2)

section
variable {P : Program} (w : World)
theorem run_sizeOf' {t : TypeId} {i : TypeInfo} (h : P.info? t = some i) : (sizeOf t).run P w = .ok i.size w := by
  unfold sizeOf
  simp [run_typeInfo w h]
theorem run_isAgg' {t : TypeId} {u : TypeDesc} (h : P.underlying t = some u) : (isAgg t).run P w = .ok (match u with | .struct _ | .array _ _ => true | _ => false) w := by
  unfold isAgg
  simp only [Sem.run_bind, run_underlying h, Result.andThen_ok]
  cases u <;> rfl
theorem run_zeroValue' {t : TypeId} {i : TypeInfo} {z : Value} (h : P.info? t = some i) (hz : i.zero = some z) : (zeroValue t).run P w = .ok z w := by
  unfold zeroValue
  simp [run_typeInfo w h, hz]
end

def TS (tm : Tm) (a : Act) (w : World) (F : Fz) (M : Mp) : Prop :=
  ∀ t p, Al.get tm t = some p → t < a.tmps.size ∧ VR w F M p (a.tmps.getD t undef)

theorem TS.ext {tm a w w' F F' M M'} (h : TS tm a w F M) (k : Ext w w' F F' M M') : TS tm a w' F' M' :=
  fun t p hp => ⟨(h t p hp).1, (h t p hp).2.ext k⟩

theorem TS.opd {tm a w F M} (h : TS tm a w F M) {x : Operand} {p : PV} (hx : opd x tm = some p) : VR w F M p (a.eval x) := by
  cases x with
  | tmp t => exact (h t p hx).2
  | const v =>
    unfold Ev.opd at hx
    cases hf : flat v with
    | true => simp only [hf] at hx; cases hx; exact .v hf
    | false => simp only [hf] at hx; cases hx
  | func f => cases hx; exact .clo (ys := []) rfl (fun i c y h => by simp at h)
  | global g => cases hx

theorem TS.opds {tm a w F M} (h : TS tm a w F M) : ∀ {xs : List Operand} {ps : List PV}, Ev.opds xs tm = some ps →
    (xs.map a.eval).length = ps.length ∧ ∀ (i : Nat) c y, ps[i]? = some c → (xs.map a.eval)[i]? = some y → VR w F M c y
  | [], ps, hx => by cases hx; exact ⟨rfl, fun i c y h => by simp at h⟩
  | x :: r, ps, hx => by
    unfold Ev.opds consO at hx
    cases h1 : Ev.opd x tm with
    | none => simp [h1] at hx
    | some p =>
      cases h2 : Ev.opds r tm with
      | none => simp [h1, h2] at hx
      | some l =>
        simp only [h1, h2] at hx; cases hx
        obtain ⟨h3, h4⟩ := h.opds h2
        refine ⟨by simp at h3 ⊢; exact h3, fun i c y hc hy => ?_⟩
        cases i with
        | zero => simp at hc hy; subst hc; subst hy; exact h.opd h1
        | succ i => simp only [List.getElem?_cons_succ, List.map_cons] at hc hy; exact h4 i c y hc hy

/-- an operation came to a value, or to none -/
def GoodN (w : World) (F : Fz) (M : Mp) (res : Result Next) (p : PV) (h : Hp) : Prop :=
  ∃ w' M', ((∃ v, res = .ok (.value v) w' ∧ VR w' F M' p v) ∨ (res = .ok .skip w' ∧ p = .un)) ∧ HS h w' F M' ∧ Ext w w' F F M M'

/-- a value was come to -/
def GoodV (w : World) (F : Fz) (M : Mp) (res : Result Value) (p : PV) (h : Hp) : Prop :=
  ∃ w' M' v, res = .ok v w' ∧ VR w' F M' p v ∧ HS h w' F M' ∧ Ext w w' F F M M'

theorem GoodV.of {w F M p h v} {P : Program} {s : Sem Value} (hs : HS h w F M) (hr : s.run P w = .ok v w) (hv : VR w F M p v) : GoodV w F M (s.run P w) p h :=
  ⟨w, M, v, hr, hv, hs, Ext.refl w F M⟩

theorem GoodV.next {w F M p h} {P : Program} {s : Sem Value} (g : GoodV w F M (s.run P w) p h) : GoodN w F M ((do pure (Next.value (← s)) : Sem Next).run P w) p h := by
  obtain ⟨w', M', v, hr, hv, hs, hx⟩ := g
  refine ⟨w', M', .inl ⟨v, ?_, hv⟩, hs, hx⟩
  simp [hr]

/-- a value was come to, and nothing else was done -/
def GoodQ (w : World) (F : Fz) (M : Mp) (res : Result Value) (p : PV) (hp h : Hp) : Prop :=
  h = hp ∧ ∃ v, res = .ok v w ∧ VR w F M p v

theorem GoodQ.of {w F M p h v} {P : Program} {s : Sem Value} (hr : s.run P w = .ok v w) (hv : VR w F M p v) : GoodQ w F M (s.run P w) p h h := ⟨rfl, v, hr, hv⟩

theorem ret1_some {hp : Hp} {x : Option PV} {p h} (e : ret1 hp x = some (p, h)) : x = some p ∧ h = hp := by
  cases x with
  | none => cases e
  | some q => cases e; exact ⟨rfl, rfl⟩

/-! ### loads -/
theorem partOf_spec {P : Program} {T : Types} (hT : TOk P T) {t : TypeId} {cs : List PV} {off : Nat} {p : PV} (h : partOf T t cs off = some p) :
    ∃ i info u z, T.get t = some i ∧ TySpec P t i info u z ∧ ((i.isAgg = true ∧ ∃ l, cut cs off i.size = some l ∧ p = .agg l) ∨ (i.isAgg = false ∧ cut cs off 1 = some [p])) := by
  unfold partOf at h
  cases h1 : T.get t with
  | none => simp [h1] at h
  | some i =>
    obtain ⟨info, u, z, h2, _⟩ := hT.get h1
    refine ⟨i, info, u, z, rfl, h2, ?_⟩
    simp only [h1] at h
    cases h3 : i.isAgg with
    | true =>
      left
      simp only [h3] at h
      cases h4 : cut cs off i.size with
      | none => simp [h4] at h
      | some l => simp only [h4] at h; cases h; exact ⟨rfl, l, rfl, rfl⟩
    | false =>
      right
      simp only [h3] at h
      refine ⟨rfl, ?_⟩
      unfold cut
      have h5 : off < cs.length := (List.getElem?_eq_some_iff.1 h).1
      have h6 : cs.drop off = p :: cs.drop (off + 1) := by
        rw [List.drop_eq_getElem_cons h5]
        congr 1
        exact Option.some.inj ((List.getElem?_eq_getElem h5).symm.trans h)
      rw [h6]; simp [takeN]

theorem run_loadVar {P : Program} {T : Types} (hT : TOk P T) {w : World} {F M} {t : TypeId} {cs : List PV} {off : Nat} {p : PV} (h : partOf T t cs off = some p) {a : Addr} (ha : a.spot = none)
    (hr : ∀ {n : Nat} {l : List PV}, cut cs off n = some l → ∃ ys, VL w F M l ys ∧ ys.length = n ∧ ∀ (j : Nat) v, ys[j]? = some v → w.cell? ⟨a.block, a.off + j, none⟩ = some v) :
    ∃ v, (loadVar t a).run P w = .ok v w ∧ VR w F M p v := by
  obtain ⟨i, info, u, z, h1, h2, h3⟩ := partOf_spec hT h
  have hadd : ∀ j, a.add j = ⟨a.block, a.off + j, none⟩ := by
    intro j; obtain ⟨b, o, s⟩ := a; simp at ha; subst ha; unfold Addr.add; split <;> simp_all
  have hag := h2.agg
  rcases h3 with ⟨h4, l, h5, rfl⟩ | ⟨h4, h5⟩
  · obtain ⟨ys, hv, hl, hc⟩ := hr h5
    refine ⟨.agg ys.toArray, ?_, hv.agg⟩
    have hlc := run_loadCells_list (P := P) w a ys (fun j v hj => by rw [hadd]; exact hc j v hj)
    unfold loadVar
    simp only [Sem.run_bind, run_isAgg' w h2.und, Result.andThen_ok]
    rw [← hag, h4]
    simp only [if_true, Sem.run_bind, run_sizeOf' w h2.hinfo, Result.andThen_ok]
    rw [← h2.size, ← hl, hlc]
    rfl
  · obtain ⟨ys, hv, hl, hc⟩ := hr h5
    obtain ⟨y, rfl⟩ : ∃ y, ys = [y] := by
      match ys, hl with
      | [y], _ => exact ⟨y, rfl⟩
    refine ⟨y, ?_, hv.head.2⟩
    unfold loadVar
    simp only [Sem.run_bind, run_isAgg' w h2.und, Result.andThen_ok]
    rw [← hag, h4]
    simp only [Bool.false_eq_true, if_false, run_load]
    have := hc 0 y rfl
    have ha' : a = ⟨a.block, a.off + 0, none⟩ := by obtain ⟨b, o, s⟩ := a; simp at ha; subst ha; rfl
    rw [ha', this]

theorem loadAt_sound {P : Program} {T : Types} (hT : TOk P T) {hp : Hp} {w : World} {F M} (hs : HS hp w F M) {t : TypeId} {x q : PV} {v : Value} (hx : VR w F M x v) (h : loadAt T hp t x = some q) :
    ∃ y, (Instr.loadAt t v).run P w = .ok y w ∧ VR w F M q y := by
  cases hx with
  | ptr hm =>
    rename_i id off p
    unfold Ev.loadAt at h
    cases hg : hp.get id with
    | none => simp [hg] at h
    | some b =>
      simp only [hg] at h
      obtain ⟨y, h1, h2⟩ := run_loadVar (P := P) (w := w) (F := F) (M := M) hT h (a := ⟨p.b, p.sh + off, none⟩) rfl (fun hc => hs.read hg hm hc)
      exact ⟨y, by simpa [Instr.loadAt, Instr.sureAddr] using h1, h2⟩
  | ep h4 h5 =>
    rename_i cs off b o f
    obtain ⟨y, h1, h2⟩ := run_loadVar (P := P) (w := w) (F := F) (M := M) hT h (a := ⟨b, o + off, none⟩) rfl (fun hc => ep_read h4 h5 hc)
    exact ⟨y, by simpa [Instr.loadAt, Instr.sureAddr] using h1, h2⟩
  | _ => simp [Ev.loadAt] at h

/-! ### stores -/
theorem storeAt_sound {P : Program} {T : Types} (hT : TOk P T) {hp h' : Hp} {w : World} {F M} (hs : HS hp w F M) {t : TypeId} {x q : PV} {v u : Value} (hx : VR w F M x v) (hq : VR w F M q u)
    (h : storeAt T hp t x q = some h') : ∃ w', (Instr.storeAt t v u).run P w = .ok () w' ∧ HS h' w' F M ∧ Ext w w' F F M M := by
  cases hx with
  | ptr hm =>
    rename_i id off p
    unfold Ev.storeAt at h
    cases hg : hp.get id with
    | none => simp [hg] at h
    | some b =>
      simp only [hg] at h
      cases hz : sizeT T t with
      | none => simp [hz] at h
      | some sz =>
        simp only [hz] at h
        cases hc : pvCells q with
        | none => simp [hc] at h
        | some xs =>
          simp only [hc] at h
          unfold storeIn at h
          cases hb : (Nat.beq xs.length sz && Nat.ble b.frz off) with
          | false => simp [hb] at h
          | true =>
            simp only [hb] at h
            simp only [Bool.and_eq_true] at hb
            have h1 : xs.length = sz := Nat.eq_of_beq_eq_true hb.1
            have h2 : b.frz ≤ off := Nat.le_of_ble_eq_true hb.2
            cases hp' : putAt b.cells off xs with
            | none => simp [hp'] at h
            | some cs =>
              simp only [hp'] at h; cases h
              have hv := hq.cells hc
              obtain ⟨c, e, h3, h4, h5, h6⟩ := hs.set hg hm hp' h2 hv
              refine ⟨_, ?_, h5, h6⟩
              unfold sizeT at hz
              cases hti : T.get t with
              | none => simp [hti] at hz
              | some i =>
                simp only [hti] at hz; cases hz
                obtain ⟨info, ud, z, h7, _⟩ := hT.get hti
                have h8 : u.cells.size = info.size := by
                  rw [← h7.size, ← h1]; have := hv.1; simpa using this
                have h9 := run_storeCells_at (P := P) p.b (p.sh + off) e u.cells.toList 0 c w h3 (by simp at h4 ⊢; omega) (oneCells hv)
                simp only [Instr.storeAt, Instr.sureAddr, Sem.run_bind, Sem.run_pure, Result.andThen_ok, storeVar, run_sizeOf' w h7.hinfo, h8, ne_eq, not_true, if_false, Sem.run_ite]
                simpa using h9
  | _ => simp [Ev.storeAt] at h
end Go.Ev

/- Operations: numbers, texts, parts, equality. -/
namespace Go.Ev
variable [Env]

theorem wrapq_eq (k : IntKind) (n : Int) : wrapq k n = k.wrap n := by
  unfold wrapq
  split
  · have e : ((2 : Int) ^ (64 : Nat)) = 18446744073709551616 := by decide
    have e' : ((2 : Int) ^ (63 : Nat)) = 9223372036854775808 := by decide
    cases n with
    | ofNat m =>
      simp only []
      cases h : Nat.ble m 9223372036854775807 with
      | true =>
        have := Nat.le_of_ble_eq_true h
        simp only [IntKind.wrap, IntKind.bits, IntKind.signed, e, e', Nat.add_one_sub_one, Int.ofNat_eq_natCast]
        simp only [Bool.true_and, decide_eq_true_eq]
        split <;> omega
      | false => rfl
    | negSucc m =>
      simp only []
      cases h : Nat.ble m 9223372036854775807 with
      | true =>
        have := Nat.le_of_ble_eq_true h
        simp only [IntKind.wrap, IntKind.bits, IntKind.signed, e, e', Nat.add_one_sub_one]
        simp only [Bool.true_and, decide_eq_true_eq]
        split <;> omega
      | false => rfl
  · rfl

theorem ileb_eq (a b : Int) : ileb a b = decide (a ≤ b) := by
  have h : ∀ m n : Nat, Nat.ble m n = decide (m ≤ n) := fun m n => by rw [Bool.eq_iff_iff, decide_eq_true_eq, Nat.ble_eq]
  cases a <;> cases b <;> simp only [ileb, h]
  · rw [Bool.eq_iff_iff, decide_eq_true_eq, decide_eq_true_eq]; simp
  · symm; rw [decide_eq_false_iff_not]; intro h; have := Int.negSucc_lt_zero ‹Nat›; simp only [Int.ofNat_eq_natCast] at *; omega
  · symm; rw [decide_eq_true_eq]; simp only [Int.ofNat_eq_natCast] at *; have := Int.negSucc_lt_zero ‹Nat›; omega
  · rw [Bool.eq_iff_iff, decide_eq_true_eq, decide_eq_true_eq]; simp only [Int.negSucc_eq]; omega

theorem ieqb_eq (a b : Int) : ieqb a b = (a == b) := by
  rw [Bool.eq_iff_iff, beq_iff_eq]
  cases a <;> cases b <;> simp [ieqb]
  omega

theorem bytesEq_eq : ∀ (x y : List UInt8), bytesEq x y = (x == y)
  | [], [] => rfl
  | [], _ :: _ => rfl
  | _ :: _, [] => rfl
  | a :: x, b :: y => by
    unfold bytesEq
    rw [bytesEq_eq x y]
    have : (a == b) = Nat.beq a.toNat b.toNat := by
      rw [Bool.eq_iff_iff, beq_iff_eq]
      exact ⟨fun e => by subst e; exact Nat.beq_refl _, fun e => UInt8.toNat_inj.1 (Nat.eq_of_beq_eq_true e)⟩
    cases h : Nat.beq a.toNat b.toNat <;> simp [h, this, List.cons_beq_cons]

theorem bytesLt_eq : ∀ (x y : List UInt8), bytesLt x y = Op.bytesLess x y
  | [], [] => rfl
  | [], _ :: _ => rfl
  | _ :: _, [] => rfl
  | a :: x, b :: y => by
    unfold bytesLt Op.bytesLess
    rw [bytesLt_eq x y]
    have h1 : (decide (a < b)) = Nat.blt a.toNat b.toNat := by
      rw [Bool.eq_iff_iff, decide_eq_true_eq, UInt8.lt_iff_toNat_lt]; simp [Nat.blt, Nat.succ_le_iff]
    have h2 : (a == b) = Nat.beq a.toNat b.toNat := by
      rw [Bool.eq_iff_iff, beq_iff_eq]
      exact ⟨fun e => by subst e; exact Nat.beq_refl _, fun e => UInt8.toNat_inj.1 (Nat.eq_of_beq_eq_true e)⟩
    cases h : Nat.blt a.toNat b.toNat <;> cases h' : Nat.beq a.toNat b.toNat <;> simp [h1, h2, h, h']

section
variable {P : Program} {w : World}

theorem bitsN_eq (k : IntKind) (a : Int) : bitsN k a = (BitVec.ofInt k.bits a).toNat := by
  unfold bitsN
  rw [BitVec.toNat_ofInt]
  push_cast
  rfl

theorem bitGen_sound {f : Nat → Nat → Nat} {k : IntKind} {g : BitVec k.bits → BitVec k.bits → BitVec k.bits} (hg : ∀ (x y : BitVec k.bits), (g x y).toNat = f x.toNat y.toNat)
    {a b : Int} {p : PV} (h : bitGen f k a b = some p) :
    p = .v (.int k (k.wrap (g (BitVec.ofInt k.bits a) (BitVec.ofInt k.bits b)).toNat)) := by
  unfold bitGen at h
  cases h
  rw [bitsN_eq, bitsN_eq, hg]
  rfl

theorem bitBin_sound {f : Nat → Nat → Nat} {g : ∀ {n : Nat}, BitVec n → BitVec n → BitVec n} (hg : ∀ {n : Nat} (x y : BitVec n), (g x y).toNat = f x.toNat y.toNat)
    {k : IntKind} {a b : Int} {p : PV} (h : bitBin f k a b = some p) :
    p = .v (.int k (k.wrap (g (BitVec.ofInt k.bits a) (BitVec.ofInt k.bits b)).toNat)) := by
  unfold bitBin at h
  cases a with
  | negSucc _ => exact bitGen_sound (fun x y => hg x y) h
  | ofNat m =>
    cases b with
    | negSucc _ => exact bitGen_sound (fun x y => hg x y) h
    | ofNat n =>
      simp only [] at h
      cases hc : (Nat.blt m (2 ^ k.bits) && Nat.blt n (2 ^ k.bits) && !k.signed) with
      | false => simp only [hc] at h; exact bitGen_sound (fun x y => hg x y) h
      | true =>
        simp only [hc] at h; cases h
        simp only [Bool.and_eq_true, Bool.not_eq_true'] at hc
        obtain ⟨⟨h1, h2⟩, h3⟩ := hc
        have h1 : m < 2 ^ k.bits := by simpa [Nat.blt, Nat.succ_le_iff] using h1
        have h2 : n < 2 ^ k.bits := by simpa [Nat.blt, Nat.succ_le_iff] using h2
        have e1 : (BitVec.ofInt k.bits (Int.ofNat m)).toNat = m := by
          simp; exact Nat.mod_eq_of_lt h1
        have e2 : (BitVec.ofInt k.bits (Int.ofNat n)).toNat = n := by
          simp; exact Nat.mod_eq_of_lt h2
        have hb := (g (BitVec.ofInt k.bits (Int.ofNat m)) (BitVec.ofInt k.bits (Int.ofNat n))).isLt
        rw [hg, e1, e2] at hb ⊢
        congr 2
        unfold IntKind.wrap
        have hb' : ((f m n : Nat) : Int) % (2 ^ k.bits : Int) = ((f m n : Nat) : Int) := by
          apply Int.emod_eq_of_lt (by omega)
          exact_mod_cast hb
        simp only [hb', h3, Bool.false_and, Bool.false_eq_true, if_false]
        rfl

theorem intBin_sound {op : BinOp} (hs : op ≠ .shl ∧ op ≠ .shr) {k : IntKind} {t : TypeId} {a b : Int} {p : PV} (h : intBin op k a b = some p) :
    ∃ x, p = .v x ∧ flat x = true ∧ (binOp op t (.int k a) (.int k b)).run P w = .ok x w := by
  cases op <;> simp only [intBin] at h
  case add => cases h; exact ⟨_, rfl, rfl, by simp [binOp, Op.intArith, wrapq_eq]⟩
  case sub => cases h; exact ⟨_, rfl, rfl, by simp [binOp, Op.intArith, wrapq_eq]⟩
  case mul => cases h; exact ⟨_, rfl, rfl, by simp [binOp, Op.intArith, wrapq_eq]⟩
  case quo =>
    cases hb : ieqb b 0 with
    | true => simp [hb] at h
    | false =>
      simp only [hb] at h; cases h
      rw [ieqb_eq] at hb
      have hb : b ≠ 0 := by simpa using hb
      exact ⟨_, rfl, rfl, by simp [binOp, Op.intDiv, hb, wrapq_eq]⟩
  case rem =>
    cases hb : ieqb b 0 with
    | true => simp [hb] at h
    | false =>
      simp only [hb] at h; cases h
      rw [ieqb_eq] at hb
      have hb : b ≠ 0 := by simpa using hb
      exact ⟨_, rfl, rfl, by simp [binOp, Op.intDiv, hb]⟩
  case eql => cases h; exact ⟨_, rfl, rfl, by simp [binOp, Op.intCmp, ieqb_eq]⟩
  case neq => cases h; exact ⟨_, rfl, rfl, by simp [binOp, Op.intCmp, ieqb_eq, bne]⟩
  case lss => cases h; exact ⟨_, rfl, rfl, by simp only [binOp, Op.intCmp, ileb_eq]; simp [← Int.not_le]⟩
  case leq => cases h; exact ⟨_, rfl, rfl, by simp [binOp, Op.intCmp, ileb_eq]⟩
  case gtr => cases h; exact ⟨_, rfl, rfl, by simp only [binOp, Op.intCmp, ileb_eq]; simp [← Int.not_le]⟩
  case geq => cases h; exact ⟨_, rfl, rfl, by simp [binOp, Op.intCmp, ileb_eq]⟩
  case and => exact ⟨_, bitBin_sound (g := fun x y => x &&& y) (fun x y => by simp [BitVec.toNat_and]) h, rfl, by simp [binOp, Op.intBits]⟩
  case or => exact ⟨_, bitBin_sound (g := fun x y => x ||| y) (fun x y => by simp [BitVec.toNat_or]) h, rfl, by simp [binOp, Op.intBits]⟩
  case xor => exact ⟨_, bitBin_sound (g := fun x y => x ^^^ y) (fun x y => by simp [BitVec.toNat_xor]) h, rfl, by simp [binOp, Op.intBits]⟩
  case andNot => exact ⟨_, bitGen_sound (g := fun x y => x &&& ~~~y) (fun x y => by simp [BitVec.toNat_and, BitVec.toNat_not, andNot]) h, rfl, by simp [binOp, Op.intBits]⟩
  all_goals simp at h

theorem shiftq_sound {op : BinOp} {k k' : IntKind} {t : TypeId} {a b : Int} {p : PV} (h : shiftq op k a b = some p) :
    ∃ x, p = .v x ∧ flat x = true ∧ (binOp op t (.int k a) (.int k' b)).run P w = .ok x w := by
  unfold shiftq at h
  cases b with
  | negSucc _ => simp at h
  | ofNat n =>
    simp only [] at h
    have hn : ¬ ((Int.ofNat n) < 0) := by simp
    cases op <;> simp only [reduceCtorEq] at h
    case shl => cases h; exact ⟨_, rfl, rfl, by simp only [binOp, Op.shift, hn, if_false, Sem.run_pure]; rfl⟩
    case shr =>
      cases a with
      | negSucc m =>
        simp only [] at h; cases h
        refine ⟨_, rfl, rfl, ?_⟩
        simp only [binOp, Op.shift, hn, if_false, Sem.run_pure]
        have : (Int.negSucc m).fdiv (2 ^ (min n k.bits)) = Int.negSucc (m / 2 ^ (min n k.bits)) := by
          have h2 : ((2 : Int) ^ (min n k.bits)) = Int.ofNat (2 ^ (min n k.bits)) := by simp
          rw [h2]
          generalize hx : 2 ^ (min n k.bits) = q
          cases q with
          | zero => exact absurd hx (Nat.ne_of_gt (Nat.two_pow_pos _))
          | succ q => rfl
        simpa using this
      | ofNat m =>
        simp only [] at h; cases h
        refine ⟨_, rfl, rfl, ?_⟩
        simp only [binOp, Op.shift, hn, if_false, Sem.run_pure]
        have : (Int.ofNat m).fdiv (2 ^ (min n k.bits)) = Int.ofNat (m / 2 ^ (min n k.bits)) := by
          rw [Int.fdiv_eq_ediv_of_nonneg _ (by exact_mod_cast Nat.zero_le _)]
          rfl
        simpa using this

theorem strBin_sound {op : BinOp} {t : TypeId} {a b : ByteArray} {p : PV} (h : strBin op a b = some p) :
    ∃ x, p = .v x ∧ flat x = true ∧ (binOp op t (.string a) (.string b)).run P w = .ok x w := by
  have hx : ∀ (x y : ByteArray), (x.toList == y.toList) = bytesEq x.data.toList y.data.toList := fun x y => by rw [ByteArray.toList_eq, ByteArray.toList_eq, bytesEq_eq]
  have hl : ∀ (x y : ByteArray), Op.bytesLess x.toList y.toList = bytesLt x.data.toList y.data.toList := fun x y => by rw [ByteArray.toList_eq, ByteArray.toList_eq, bytesLt_eq]
  cases op <;> simp only [strBin] at h
  case add =>
    cases hc : Nat.ble (a.data.toList.length + b.data.toList.length) 9223372036854775807 with
    | false => simp only [hc] at h; cases h
    | true =>
      simp only [hc] at h; cases h
      have hc := Nat.le_of_ble_eq_true hc
      refine ⟨_, rfl, rfl, ?_⟩
      have h1 : ¬ (((a.size + b.size : Nat) : Int) > IntKind.i64.max) := by
        have e : IntKind.i64.max = 9223372036854775807 := by decide
        rw [e]
        have e1 : a.data.toList.length = a.size := Array.length_toList
        have e2 : b.data.toList.length = b.size := Array.length_toList
        omega
      simp only [binOp, Op.stringOp, h1, if_false, Sem.run_pure]
      congr 2
  case eql => cases h; exact ⟨_, rfl, rfl, by simp only [binOp, Op.stringOp, hx, Sem.run_pure]⟩
  case neq => cases h; exact ⟨_, rfl, rfl, by simp only [binOp, Op.stringOp, hx, Sem.run_pure]⟩
  case lss => cases h; exact ⟨_, rfl, rfl, by simp only [binOp, Op.stringOp, hl, Sem.run_pure]⟩
  case leq => cases h; exact ⟨_, rfl, rfl, by simp only [binOp, Op.stringOp, hx, hl, Sem.run_pure]⟩
  case gtr => cases h; exact ⟨_, rfl, rfl, by simp only [binOp, Op.stringOp, hx, hl, Sem.run_pure]⟩
  case geq => cases h; exact ⟨_, rfl, rfl, by simp only [binOp, Op.stringOp, hl, Sem.run_pure]⟩
  all_goals simp at h
end
end Go.Ev

/- Operations: parts of structs and arrays, equality, literals, addresses. -/
namespace Go.Ev
variable [Env]
section
variable {P : Program} {T : Types} {w : World} {F : Fz} {M : Mp}

theorem part_sound (hT : TOk P T) {t : TypeId} {cs : List PV} {ys : List Value} (hv : VL w F M cs ys) {off : Nat} {p : PV} (h : partOf T t cs off = some p) :
    ∃ v, (part t ys.toArray off).run P w = .ok v w ∧ VR w F M p v := by
  obtain ⟨i, info, u, z, h1, h2, h3⟩ := partOf_spec hT h
  have hag := h2.agg
  rcases h3 with ⟨h4, l, h5, rfl⟩ | ⟨h4, h5⟩
  · obtain ⟨h6, h7⟩ := cut_spec h5
    refine ⟨.agg ((ys.drop off).take i.size).toArray, ?_, ?_⟩
    · unfold part
      simp only [Sem.run_bind, run_isAgg' w h2.und, Result.andThen_ok]
      rw [← hag, h4]
      simp only [if_true, Sem.run_bind, run_sizeOf' w h2.hinfo, Result.andThen_ok, Sem.run_pure]
      rw [← h2.size]
      congr 2
      apply Array.ext'
      simp [List.extract_eq_take_drop]
    · rw [h6]; exact ((hv.drop off).take i.size).agg
  · obtain ⟨h6, h7⟩ := cut_spec h5
    have hlt : off < cs.length := by omega
    have hy : off < ys.length := by rw [hv.1]; exact hlt
    have h8 : cs[off]? = some p := by
      have : (cs.drop off)[0]? = some p := by
        have h9 : ((cs.drop off).take 1)[0]? = some p := by rw [← h6]; rfl
        rw [List.getElem?_take, if_pos (by omega)] at h9; exact h9
      simpa using this
    refine ⟨ys[off], ?_, (hv.2 off p _ h8 (List.getElem?_eq_getElem hy)).2⟩
    unfold part
    simp only [Sem.run_bind, run_isAgg' w h2.und, Result.andThen_ok]
    rw [← hag, h4]
    simp [hy]

theorem agg_inv {cs : List PV} {v : Value} (h : VR w F M (.agg cs) v) : ∃ ys : List Value, v = .agg ys.toArray ∧ VL w F M cs ys := by
  cases h with
  | agg hl hc hr => exact ⟨_, rfl, hl, fun i c y h1 h2 => ⟨hc i c h1, hr i c y h1 h2⟩⟩

/-- equality, by type -/
theorem eqT_sound (hT : TOk P T) : ∀ (n d : Nat), n ≤ d → ∀ {t : TypeId} {x y : PV} {v u : Value} {r : Bool}, VR w F M x v → VR w F M y u → eqT T n t x y = some r →
    (Op.equalIn d t v u).run P w = .ok r w
  | 0, _, _, _, _, _, _, _, _, _, _, h => by simp [eqT] at h
  | n + 1, 0, hd, _, _, _, _, _, _, _, _, _ => by omega
  | n + 1, d + 1, hd, t, x, y, v, u, r, hx, hy, h => by
    have ih : ∀ {t : TypeId} {x y : PV} {v u : Value} {r : Bool}, VR w F M x v → VR w F M y u → eqT T n t x y = some r → (Op.equalIn d t v u).run P w = .ok r w := fun h1 h2 h3 => eqT_sound hT n d (by omega) h1 h2 h3
    unfold eqT at h
    cases hi : T.get t with
    | none => simp [hi] at h
    | some i =>
      obtain ⟨info, ud, z, hs, _⟩ := hT.get hi
      simp only [hi] at h
      split at h
      · rename_i hk
        obtain rfl := hs.k6 hk
        split at h
        · rename_i k1 a k2 b
          cases hx; cases hy
          by_cases he : k1 = k2
          · subst he
            simp only [decide_true] at h; cases h
            rw [run_equalIn_int w d t k1 i.ik a b hs.und, ieqb_eq]
          · simp [he] at h
        · cases h
      · rename_i hk
        obtain rfl := hs.k7 hk
        split at h
        · cases hx; cases hy; cases h
          exact run_equalIn_bool w d t _ _ hs.und
        · cases h
      · rename_i hk
        obtain rfl := hs.k4 hk
        split at h
        · cases hx; cases hy; cases h
          rw [run_equalIn_string w d t _ _ hs.und, ByteArray.toList_eq, ByteArray.toList_eq, bytesEq_eq]
        · split at h
          · rename_i hab
            simp only [Bool.and_eq_true] at hab
            have := Nat.eq_of_beq_eq_true hab.1
            subst this
            cases hx; cases hy; cases h
            rw [Env.val_str hab.2, run_equalIn_string w d t _ _ hs.und]
            simp
          · cases h
        · cases h
      · rename_i hk
        obtain ⟨fs, rfl, hf, he⟩ := hs.k3 hk
        cases hq : i.eqok with
        | false => simp [hq] at h
        | true =>
          simp only [hq] at h
          obtain ⟨hp, hn⟩ := he hq
          split at h
          · rename_i cs ds
            obtain ⟨ys, rfl, hv⟩ := agg_inv hx
            obtain ⟨zs, rfl, hv'⟩ := agg_inv hy
            have hfo : P.fieldsOf t = fs := by simp [Program.fieldsOf, hs.und]
            rw [run_equalIn_struct w d t _ _ (by rw [hfo]; exact hs.und) hp, hfo]
            rw [hf] at h
            have hn' : ∀ f ∈ fs.toList, f.name ≠ "_" := fun f hf' => hn f (by simpa using hf')
            generalize fs.toList = l at h hn'
            clear hf hfo hs hn
            induction l generalizing r with
            | nil => simp only [List.map_nil, eqT.eqFs, Option.some.injEq] at h; subst h; simp [Op.eqFields]
            | cons f l ihl =>
              simp only [List.map_cons, eqT.eqFs] at h
              cases h1 : partOf T f.type cs f.offset with
              | none => simp [h1] at h
              | some p =>
                cases h2 : partOf T f.type ds f.offset with
                | none => simp [h1, h2] at h
                | some q =>
                  cases h3 : eqT T n f.type p q with
                  | none => simp [h1, h2, h3] at h
                  | some b =>
                    obtain ⟨v1, hr1, hv1⟩ := part_sound hT hv h1
                    obtain ⟨v2, hr2, hv2⟩ := part_sound hT hv' h2
                    have hr3 := ih hv1 hv2 h3
                    simp only [h1, h2, h3] at h
                    simp only [Op.eqFields, ne_eq, hn' f (List.mem_cons_self), not_false_eq_true, if_true, Sem.run_bind, hr1, hr2, hr3, Result.andThen_ok]
                    cases b with
                    | false => cases h; simp
                    | true =>
                      simp only [Bool.not_true, Bool.false_eq_true, if_false]
                      exact ihl r h (fun g hg => hn' g (List.mem_cons_of_mem _ hg))
          · cases h
      · rename_i hk
        obtain rfl := hs.k2 hk
        split at h
        · rename_i cs ds
          obtain ⟨ys, rfl, hv⟩ := agg_inv hx
          obtain ⟨zs, rfl, hv'⟩ := agg_inv hy
          unfold sizeT at h
          cases hj : T.get i.elem with
          | none => simp [hj] at h
          | some j =>
            obtain ⟨jinfo, ju, jz, js, _⟩ := hT.get hj
            simp only [hj] at h
            rw [run_equalIn_array w d _ _ hs.und js.hinfo]
            have hcell : P.cellsOf i.elem = j.size := by rw [js.size]; simp [Program.cellsOf, js.hinfo]
            rw [hcell]
            rw [List.range_eq_range']
            generalize i.alen = m at h
            generalize 0 = k at h
            induction m generalizing k r with
            | zero => simp only [eqT.eqEs, Option.some.injEq] at h; subst h; simp [Op.eqItems]
            | succ m ihm =>
              simp only [eqT.eqEs] at h
              cases h1 : partOf T i.elem cs (k * j.size) with
              | none => simp [h1] at h
              | some p =>
                cases h2 : partOf T i.elem ds (k * j.size) with
                | none => simp [h1, h2] at h
                | some q =>
                  cases h3 : eqT T n i.elem p q with
                  | none => simp [h1, h2, h3] at h
                  | some b =>
                    obtain ⟨v1, hr1, hv1⟩ := part_sound hT hv h1
                    obtain ⟨v2, hr2, hv2⟩ := part_sound hT hv' h2
                    have hr3 := ih hv1 hv2 h3
                    simp only [h1, h2, h3] at h
                    simp only [List.range'_succ, Op.eqItems, Sem.run_bind, hr1, hr2, hr3, Result.andThen_ok]
                    cases b with
                    | false => cases h; simp
                    | true =>
                      simp only [Bool.not_true, Bool.false_eq_true, if_false]
                      exact ihm r (k + 1) h
        · cases h
      · cases h
end
end Go.Ev

/- Operations: the ones that make values, addresses and blocks. -/
namespace Go.Ev
variable [Env]
section
variable {P : Program} {T : Types} {w : World} {F : Fz} {M : Mp} {hp : Hp}

theorem foldl_put : ∀ (xs : List Value) (off i : Nat) (cs : Array Value), off + i + xs.length ≤ cs.size →
    ((xs.zipIdx i).foldl (fun cs (c, j) => cs.setIfInBounds (off + j) c) cs).toList = cs.toList.take (off + i) ++ xs ++ cs.toList.drop (off + i + xs.length)
  | [], off, i, cs, h => by simp
  | x :: xs, off, i, cs, h => by
    have hlt : off + i < cs.size := by simp at h; omega
    rw [List.zipIdx_cons, List.foldl_cons, foldl_put xs off (i + 1) _ (by simp at h ⊢; omega)]
    simp only [Array.toList_setIfInBounds, List.length_cons]
    have h1 : (cs.toList.set (off + i) x).take (off + (i + 1)) = cs.toList.take (off + i) ++ [x] := by
      rw [show off + (i + 1) = off + i + 1 by omega, List.take_succ_eq_append_getElem (by simpa using hlt)]
      simp [List.take_set_of_le]
    have h2 : (cs.toList.set (off + i) x).drop (off + (i + 1) + xs.length) = cs.toList.drop (off + i + (xs.length + 1)) := by
      rw [List.drop_set_of_lt (by omega)]
      congr 1; omega
    rw [h1, h2]
    simp

theorem fill_sound {place : Nat → Option (Nat × Nat)} : ∀ {ps : List (Nat × PV)} {vs : List (Nat × Value)} {cs cs' : List PV} {ys : Array Value},
    vs.length = ps.length → (∀ (i : Nat) p v, ps[i]? = some p → vs[i]? = some v → v.1 = p.1 ∧ VR w F M p.2 v.2) → VL w F M cs ys.toList → fillP place cs ps = some cs' →
    ∃ zs, Instr.fill place ys vs = some zs ∧ VL w F M cs' zs.toList
  | [], [], cs, cs', ys, _, _, hv, h => by simp [fillP] at h; subst h; exact ⟨ys, rfl, hv⟩
  | [], _ :: _, _, _, _, h, _, _, _ => by simp at h
  | _ :: _, [], _, _, _, h, _, _, _ => by simp at h
  | (i, x) :: ps, (j, u) :: vs, cs, cs', ys, hl, hr, hv, h => by
    obtain ⟨hij, hxu⟩ := hr 0 _ _ rfl rfl
    simp only at hij hxu; subst hij
    unfold fillP at h
    unfold Instr.fill
    cases hp : place j with
    | none => simp [hp] at h
    | some os =>
      obtain ⟨off, size⟩ := os
      simp only [hp] at h ⊢
      cases hc : pvCells x with
      | none => simp [hc] at h
      | some xs =>
        simp only [hc] at h
        cases hb : Nat.beq xs.length size with
        | false => simp [hb] at h
        | true =>
          simp only [hb] at h
          have hlen : xs.length = size := Nat.eq_of_beq_eq_true hb
          cases hq : putAt cs off xs with
          | none => simp [hq] at h
          | some cs1 =>
            simp only [hq] at h
            have hxs := hxu.cells hc
            obtain ⟨h1, h2⟩ := putAt_spec hq
            have hu : u.cells.size = xs.length := by have := hxs.1; simpa using this
            have hy : ys.size = cs.length := by have := hv.1; simpa using this
            have hno : ¬ (u.cells.size ≠ size ∨ off + u.cells.size > ys.size) := by
              rw [hu, hy, hlen]; rw [hlen] at h1; omega
            have hno' : (decide (u.cells.size ≠ size) || decide (off + u.cells.size > ys.size)) = false := by
              simpa using hno
            simp only [hno', Bool.false_eq_true, if_false]
            refine fill_sound (by simpa using hl) (fun k p v h3 h4 => hr (k + 1) p v (by simpa using h3) (by simpa using h4)) ?_ h
            have hfold : (u.cells.zipIdx.foldl (fun cs (c, j) => cs.setIfInBounds (off + j) c) ys).toList = ys.toList.take off ++ u.cells.toList ++ ys.toList.drop (off + u.cells.toList.length) := by
              have := foldl_put u.cells.toList off 0 ys (by simp; omega)
              simp only [Nat.add_zero] at this
              rw [← this]
              congr 1
              rw [← Array.foldl_toList]
              simp
            rw [hfold, h2]
            have hxl : u.cells.toList.length = xs.length := hxs.1
            rw [hxl]
            exact ((hv.take off).append hxs).append (hv.drop _)
end
end Go.Ev

/- Operations: each one, as it stands in the code. -/
namespace Go.Ev
variable [Env]
section
variable {P : Program} {T : Types} {w : World} {F : Fz} {M : Mp} {hp : Hp}

theorem rep_length (zs : List Value) : ∀ c, (rep zs c).length = c * zs.length
  | 0 => by simp [rep]
  | c + 1 => by simp [rep, rep_length zs c, Nat.add_mul]; omega

theorem rep_get (zs : List Value) (hz : 0 < zs.length) : ∀ (c k : Nat), k < c * zs.length → (rep zs c)[k]? = (zs[k % zs.length]?).map PV.v
  | 0, k, h => by simp at h
  | c + 1, k, h => by
    unfold rep
    by_cases hk : k < zs.length
    · rw [List.getElem?_append_left (by simpa using hk), Nat.mod_eq_of_lt hk]; simp
    · rw [List.getElem?_append_right (by simpa using hk)]
      simp only [List.length_map]
      rw [rep_get zs hz c (k - zs.length) (by rw [Nat.add_mul] at h; omega)]
      rw [← Nat.mod_eq_sub_mod (Nat.le_of_not_lt hk)]

theorem made_VL {zs : Array Value} {s : Nat} (hz : zeroOk zs.toList = true) (hs : zs.toList.length = s) (h1 : 1 ≤ s) (c : Nat) : VL w F M (rep zs.toList c) (madeCells zs (c * s)).toList := by
  subst hs
  refine ⟨by simp [rep_length, madeCells], fun k p y h2 h3 => ?_⟩
  have hk : k < c * zs.toList.length := by
    have := (List.getElem?_eq_some_iff.1 h2).1; rw [rep_length] at this; exact this
  rw [rep_get _ h1 c k hk] at h2
  have hm : k % zs.toList.length < zs.toList.length := Nat.mod_lt _ h1
  have hzv : VL w F M (zs.toList.map .v) zs.toList := zero_VL hz
  have h4 : (zs.toList.map PV.v)[k % zs.toList.length]? = some p := by simpa using h2
  have h5 : zs.toList[k % zs.toList.length]? = some y := by
    simp only [madeCells] at h3
    have hk' : k < c * zs.size := by simpa using hk
    simp [hk'] at h3
    rw [← h3]
    have hm' : k % zs.size < zs.size := by simpa using hm
    simp [hm']
  exact hzv.2 _ _ _ h4 h5

theorem newVar_run (t : TypeId) (ys : Array Value) : (Go.newRow t ys).run P w = .ok ⟨w.heap.size, 0, none⟩ (w.alloc (.cells ys t)) := rfl

/-- a new block was made, and nothing else was done -/
def GoodA (w : World) (F : Fz) (M : Mp) (res : Result Value) (p : PV) (hp h : Hp) : Prop :=
  ∃ (cs : List PV) (ys : Array Value) (t : TypeId) (sz : Nat) (v : Value), h = hp.new ⟨cs, sz, false, 0, t⟩ ∧ VL w F M cs ys.toList ∧ res = .ok v (w.alloc (.cells ys t)) ∧
    ∀ (w' : World) (F' : Fz) (M' : Mp), M' hp.next = some ⟨w.heap.size, 0, cs.length, ys.size, sz, false⟩ → VR w' F' M' p v

theorem GoodA.goodV {res : Result Value} {p : PV} {h : Hp} (hs : HS hp w F M) (g : GoodA w F M res p hp h) : GoodV w F M res p h := by
  obtain ⟨cs, ys, t, sz, v, rfl, hv, hr, hvr⟩ := g
  have h := hs.new cs ys.toList [] t sz false 0 hv
  simp only [List.append_nil, Array.toArray_toList, Array.length_toList] at h
  exact ⟨_, _, v, hr, hvr _ _ _ (Mp.up_self _ _ _), h.1, h.2⟩

theorem alloc_sound (hT : TOk P T) {t : TypeId} {p : PV} {h : Hp} (e : primAlloc T hp t = some (p, h)) : GoodA w F M ((Instr.alloc t true (.tuple #[])).run P w) p hp h := by
  unfold primAlloc at e
  cases hi : T.get t with
  | none => simp [hi] at e
  | some i =>
    simp only [hi] at e; cases e
    obtain ⟨info, u, z, hz, hzo⟩ := hT.get hi
    rw [hz.cells] at hzo
    refine ⟨i.zero.map .v, z.cells, t, i.size, .pointer (some ⟨w.heap.size, 0, none⟩), rfl, by rw [hz.cells]; exact zero_VL hzo, ?_, fun w' F' M' h4 => by simpa using VR.ptr (off := 0) h4⟩
    simp only [Instr.alloc, Sem.run_bind, run_zeroValue' w hz.hinfo hz.hzero, Result.andThen_ok, newVar, newVar_run, Sem.run_pure]

theorem box_sound {t : TypeId} {x : Option PV} {v : Value} (hx : ∀ q, x = some q → VR w F M q v) {p : PV} {h : Hp} (e : primBox T hp t x = some (p, h)) :
    GoodA w F M ((Instr.box t v).run P w) p hp h := by
  unfold primBox at e
  cases hi : T.get t with
  | none => simp [hi] at e
  | some i =>
    cases x with
    | none => simp [hi] at e
    | some q =>
      simp only [hi] at e
      unfold boxOf at e
      cases hc : pvCells q with
      | none => simp [hc] at e
      | some xs =>
        simp only [hc] at e
        cases hb : Nat.beq xs.length i.size with
        | false => simp [hb] at e
        | true =>
          simp only [hb] at e; cases e
          have hv := (hx q rfl).cells hc
          exact ⟨xs, v.cells, t, i.size, .pointer (some ⟨w.heap.size, 0, none⟩), rfl, hv, by simp [Instr.box, newVar, newVar_run], fun w' F' M' h4 => by simpa using VR.ptr (off := 0) h4⟩

theorem parts_sound {tm : Tm} {a : Act} (ht : TS tm a w F M) : ∀ {parts : List (Nat × Operand)} {ps : List (Nat × PV)}, partsOf parts tm = some ps →
    (parts.map fun (i, x) => (i, a.eval x)).length = ps.length ∧ ∀ (i : Nat) p v, ps[i]? = some p → (parts.map fun (i, x) => (i, a.eval x))[i]? = some v → v.1 = p.1 ∧ VR w F M p.2 v.2
  | [], ps, h => by cases h; exact ⟨rfl, fun i p v h => by simp at h⟩
  | (j, x) :: r, ps, h => by
    unfold partsOf consP at h
    cases h1 : Ev.opd x tm with
    | none => simp [h1] at h
    | some q =>
      cases h2 : partsOf r tm with
      | none => simp [h1, h2] at h
      | some l =>
        simp only [h1, h2] at h; cases h
        obtain ⟨h3, h4⟩ := parts_sound ht h2
        refine ⟨by simp at h3 ⊢; exact h3, fun i p v hp hv => ?_⟩
        cases i with
        | zero => simp at hp hv; subst hp; subst hv; exact ⟨rfl, ht.opd h1⟩
        | succ i => simp only [List.getElem?_cons_succ, List.map_cons] at hp hv; exact h4 i p v hp hv

theorem build_sound (hT : TOk P T) {tm : Tm} {a : Act} (ht : TS tm a w F M) {t : TypeId} {parts : Array (Nat × Operand)} {p : PV} {h : Hp}
    (e : primBuild T hp t (partsOf parts.toList tm) = some (p, h)) : GoodQ w F M ((Instr.build t (parts.map fun (i, x) => (i, a.eval x))).run P w) p hp h := by
  unfold primBuild at e
  cases hi : T.get t with
  | none => simp [hi] at e
  | some i =>
    cases hps : partsOf parts.toList tm with
    | none => simp [hi, hps] at e
    | some ps =>
      simp only [hi, hps] at e
      obtain ⟨info, u, z, hz, hzo⟩ := hT.get hi
      obtain ⟨h1, h2⟩ := parts_sound ht hps
      have hzv : VL w F M (i.zero.map .v) z.cells.toList := by rw [hz.cells]; rw [hz.cells] at hzo; exact zero_VL hzo
      unfold buildOf at e
      have hpl : ((parts.map fun (x : Nat × Operand) => (x.1, a.eval x.2)).toList) = parts.toList.map fun x => (x.1, a.eval x.2) := by simp
      cases hk : Nat.beq i.kind 3 with
      | true =>
        simp only [hk] at e
        obtain ⟨fs, rfl, hf, _⟩ := hz.k3 (Nat.eq_of_beq_eq_true hk)
        cases hfill : fillP (placeS T i) (i.zero.map .v) ps with
        | none => simp [hfill, aggOf] at e
        | some cs =>
          simp only [hfill, aggOf] at e; cases e
          have hall : ∀ f ∈ fs.toList, ∃ j jinfo ju jz, T.get f.type = some j ∧ TySpec P f.type j jinfo ju jz := fun f hf' => by
            obtain ⟨j, hj⟩ := hT.fields t i hi (Nat.eq_of_beq_eq_true hk) (f.offset, f.type) (by rw [hf]; exact List.mem_map.2 ⟨f, hf', rfl⟩)
            obtain ⟨jinfo, ju, jz, js, _⟩ := hT.get hj
            exact ⟨j, jinfo, ju, jz, hj, js⟩
          have hmap : ∀ (l : List Field), (∀ f ∈ l, ∃ j jinfo ju jz, T.get f.type = some j ∧ TySpec P f.type j jinfo ju jz) →
              ∃ r : List (Nat × Nat), (l.mapM fun (f : Field) => (do pure (f.offset, ← sizeOf f.type) : Sem (Nat × Nat))).run P w = .ok r w ∧
                ∀ k : Nat, r[k]? = (match ((l.map fun (f : Field) => ((f.offset, f.type) : Nat × Nat))[k]? : Option (Nat × Nat)) with | none => none | some (off, ft) => match sizeT T ft with | none => none | some s => some (off, s) : Option (Nat × Nat)) := by
            intro l hl
            induction l with
            | nil => exact ⟨[], by simp, fun k => by simp⟩
            | cons f l ih =>
              obtain ⟨r, hr, hr'⟩ := ih (fun g hg => hl g (List.mem_cons_of_mem _ hg))
              obtain ⟨j, jinfo, ju, jz, hj, js⟩ := hl f List.mem_cons_self
              refine ⟨(f.offset, jinfo.size) :: r, ?_, fun k => ?_⟩
              · rw [List.mapM_cons]
                simp only [Sem.run_bind, run_sizeOf' w js.hinfo, Result.andThen_ok, Sem.run_pure, hr]
              · cases k with
                | zero => simp [sizeT, hj, js.size]
                | succ k => simpa using hr' k
          obtain ⟨r, hr, hr'⟩ := hmap fs.toList hall
          obtain ⟨zs, h5, h6⟩ := fill_sound (w := w) (F := F) (M := M) h1 h2 hzv hfill
          have hpe : placeS T i = (r.toArray[·]?) := by
            funext k
            rw [List.getElem?_toArray, hr' k, ← hf]
            rfl
          refine ⟨rfl, .agg zs, ?_, by simpa using h6.agg⟩
          simp only [Instr.build, Sem.run_bind, run_zeroValue' w hz.hinfo hz.hzero, Result.andThen_ok, run_underlying hz.und]
          rw [Array.mapM_eq_mapM_toList]
          simp only [Sem.run_map, hr, Result.andThen_ok, hpl]
          rw [← hpe, h5]
          rfl
      | false =>
        simp only [hk] at e
        cases hk2 : Nat.beq i.kind 2 with
        | false => simp [hk2] at e
        | true =>
          simp only [hk2] at e
          obtain rfl := hz.k2 (Nat.eq_of_beq_eq_true hk2)
          unfold sizeT at e
          cases hj : T.get i.elem with
          | none => simp [hj] at e
          | some j =>
            obtain ⟨jinfo, ju, jz, js, _⟩ := hT.get hj
            simp only [hj] at e
            cases hfill : fillP (placeA j.size) (i.zero.map .v) ps with
            | none => simp [hfill, aggOf] at e
            | some cs =>
              simp only [hfill, aggOf] at e; cases e
              obtain ⟨zs, h5, h6⟩ := fill_sound (w := w) (F := F) (M := M) h1 h2 hzv hfill
              refine ⟨rfl, .agg zs, ?_, by simpa using h6.agg⟩
              simp only [Instr.build, Sem.run_bind, run_zeroValue' w hz.hinfo hz.hzero, Result.andThen_ok, run_underlying hz.und, run_sizeOf' w js.hinfo, hpl]
              rw [← js.size]
              have : (fun k => some (k * j.size, j.size)) = placeA j.size := rfl
              rw [this, h5]
              rfl
end
end Go.Ev

/- Operations: each one, as it stands in the code, more. -/
namespace Go.Ev
variable [Env]
section
variable {P : Program} {T : Types} {w : World} {F : Fz} {M : Mp} {hp : Hp}

theorem row_new {w' : World} {F' : Fz} {id n : Nat} {p : Pl} {c sz B : Nat} {loose : Bool} (hm : M id = some p) (hp : p = ⟨w.heap.size, 0, c, B, sz, loose⟩) (hc : n * sz = c) :
    VR w' F' M (.row id 0 n n sz) (.slice (some ⟨w.heap.size, 0, none⟩) n n) := by
  subst hp
  have := VR.row (w := w') (F := F') (M := M) (id := id) (off := 0) (len := n) (cap := n) (cap' := n) hm rfl (Nat.le_refl _) (by simp [hc]) (.inl rfl)
  simpa using this

theorem buildSlice_sound (hT : TOk P T) {tm : Tm} {a : Act} (ht : TS tm a w F M) {t : TypeId} {n : Nat} {parts : Array (Nat × Operand)} {p : PV} {h : Hp}
    (e : primBuildSlice T hp t n (partsOf parts.toList tm) = some (p, h)) : GoodA w F M ((Instr.buildSlice t n (parts.map fun (i, x) => (i, a.eval x))).run P w) p hp h := by
  unfold primBuildSlice at e
  cases hi : T.get t with
  | none => simp [hi] at e
  | some i =>
    simp only [hi] at e
    cases hk : Nat.beq i.kind 1 with
    | false => simp [hk] at e
    | true =>
      simp only [hk] at e
      cases hps : partsOf parts.toList tm with
      | none => simp [hps] at e
      | some ps =>
        simp only [hps] at e
        obtain ⟨info, u, z, hz, _⟩ := hT.get hi
        obtain rfl := hz.k1 (Nat.eq_of_beq_eq_true hk)
        obtain ⟨h1, h2⟩ := parts_sound ht hps
        unfold buildSliceOf at e
        cases hj : T.get i.elem with
        | none => simp [hj] at e
        | some j =>
          simp only [hj] at e
          obtain ⟨jinfo, ju, jz, js, jzo⟩ := hT.get hj
          cases hc : (Nat.ble (n * j.size) 16777216 && Nat.ble 1 j.size && Nat.beq j.zero.length j.size) with
          | false => simp [hc] at e
          | true =>
            simp only [hc] at e
            simp only [Bool.and_eq_true] at hc
            obtain ⟨⟨hc1, hc2⟩, hc3⟩ := hc
            have hc1 := Nat.le_of_ble_eq_true hc1
            have hc2 := Nat.le_of_ble_eq_true hc2
            have hc3 := Nat.eq_of_beq_eq_true hc3
            cases hfill : fillP (placeA j.size) (rep j.zero n) ps with
            | none => simp [hfill, rowOf] at e
            | some cs =>
              simp only [hfill, rowOf] at e; cases e
              have hmade : VL w F M (rep j.zero n) (madeCells jz.cells (n * j.size)).toList := by
                rw [js.cells]; rw [js.cells] at jzo hc3; exact made_VL jzo hc3 hc2 n
              have hpl : ((parts.map fun (x : Nat × Operand) => (x.1, a.eval x.2)).toList) = parts.toList.map fun x => (x.1, a.eval x.2) := by simp
              obtain ⟨zs, h5, h6⟩ := fill_sound (w := w) (F := F) (M := M) h1 h2 hmade hfill
              have hlen : n * j.size = cs.length := by
                have hl : ∀ {ps : List (Nat × PV)} {c c' : List PV}, fillP (placeA j.size) c ps = some c' → c'.length = c.length := by
                  intro ps
                  induction ps with
                  | nil => intro c c' h; simp [fillP] at h; subst h; rfl
                  | cons q ps ih =>
                    intro c c' h
                    obtain ⟨k, x⟩ := q
                    simp only [fillP, placeA] at h
                    cases hq : pvCells x with
                    | none => simp [hq] at h
                    | some xs =>
                      simp only [hq] at h
                      cases hb : Nat.beq xs.length j.size with
                      | false => simp [hb] at h
                      | true =>
                        simp only [hb] at h
                        cases hq2 : putAt c (k * j.size) xs with
                        | none => simp [hq2] at h
                        | some c1 =>
                          simp only [hq2] at h
                          obtain ⟨g1, g2⟩ := putAt_spec hq2
                          rw [ih h, g2]; simp; omega
                rw [hl hfill, rep_length, hc3]
              refine ⟨cs, zs, i.elem, j.size, .slice (some ⟨w.heap.size, 0, none⟩) n n, rfl, h6, ?_, fun w' F' M' h10 => row_new (w := w) h10 rfl hlen⟩
              have hsz : ¬ (n * jinfo.size > 2 ^ 24) := by rw [← js.size]; omega
              simp only [Instr.buildSlice, Sem.run_bind, run_underlying hz.und, Result.andThen_ok, run_sizeOf' w js.hinfo, hsz, if_false, Sem.run_ite, run_zeroValue' w js.hinfo js.hzero, Sem.run_pure]
              have hfe : (fun k => some (k * jinfo.size, jinfo.size)) = placeA j.size := by rw [js.size]; rfl
              rw [hfe, hpl]
              by_cases h0 : n * jinfo.size = 0
              · have hm0 : madeCells jz.cells (n * j.size) = (Array.range (n * jinfo.size)).map (fun k => (#[] : Array Value)[k % (#[] : Array Value).size]!) := by
                  rw [js.size, h0]; simp [madeCells]
                rw [hm0] at h5
                simp only [h0, if_true]
                rw [h0] at h5
                rw [h5]
                simp only [Sem.run_bind, newVar_run, Result.andThen_ok, Sem.run_pure]
              · simp only [h0, if_false]
                have hm1 : madeCells jz.cells (n * j.size) = (Array.range (n * jinfo.size)).map (fun k => jz.cells[k % jz.cells.size]!) := by rw [js.size]; rfl
                rw [hm1] at h5
                rw [h5]
                simp only [Sem.run_bind, newVar_run, Result.andThen_ok, Sem.run_pure]

theorem make_sound (hT : TOk P T) {t : TypeId} {x y : Option PV} {v u : Value} (hx : ∀ q, x = some q → VR w F M q v) (hy : ∀ q, y = some q → VR w F M q u) {p : PV} {h : Hp}
    (e : primMake T hp t x y = some (p, h)) : GoodA w F M ((Instr.makeSlice t v u).run P w) p hp h := by
  unfold primMake at e
  cases hi : T.get t with
  | none => simp [hi] at e
  | some i =>
    simp only [hi] at e
    cases hk : Nat.beq i.kind 1 with
    | false => simp [hk] at e
    | true =>
      simp only [hk] at e
      obtain ⟨info, ud, z, hz, _⟩ := hT.get hi
      obtain rfl := hz.k1 (Nat.eq_of_beq_eq_true hk)
      cases hj : T.get i.elem with
      | none => simp [hj] at e
      | some j =>
        simp only [hj] at e
        obtain ⟨jinfo, ju, jz, js, jzo⟩ := hT.get hj
        split at e
        · rename_i _ _ kl l kc c
          cases hx _ rfl
          cases hy _ rfl
          unfold makeOf at e
          cases hc : (Nat.ble l c && Nat.ble (c * j.bytes) 281474976710656 && Nat.ble 1 j.size && Nat.ble c 9223372036854775807 && Nat.beq j.zero.length j.size) with
          | false => simp only [hc] at e; cases e
          | true =>
            simp only [hc] at e; cases e
            simp only [Bool.and_eq_true] at hc
            obtain ⟨⟨⟨⟨c1, c2⟩, c3⟩, c4⟩, c5⟩ := hc
            have c1 := Nat.le_of_ble_eq_true c1
            have c2 := Nat.le_of_ble_eq_true c2
            have c3 := Nat.le_of_ble_eq_true c3
            have c4 := Nat.le_of_ble_eq_true c4
            have c5 := Nat.eq_of_beq_eq_true c5
            have hmade : VL w F M (rep j.zero c) (madeCells jz.cells (c * j.size)).toList := by
              rw [js.cells]; rw [js.cells] at jzo c5; exact made_VL jzo c5 c3 c
            have hrun := run_make (P := P) w t i.elem jinfo jz hz.und js.hinfo js.hzero kl kc (Int.ofNat l) (Int.ofNat c) (by simp) (by simpa using c1)
              (by rw [js.bytes] at c2; have : ((c * jinfo.bytes : Nat) : Int) ≤ 281474976710656 := by omega
                  rw [Int.natCast_mul, Int.mul_comm] at this; exact this) (by show (c : Int) ≤ 9223372036854775807; omega)
            refine ⟨rep j.zero c, madeCells jz.cells (c * j.size), i.elem, j.size, .slice (some ⟨w.heap.size, 0, none⟩) l c, rfl, hmade, ?_, fun w' F' M' h10 => ?_⟩
            · rw [hrun, js.size]
              rfl
            · have := VR.row (w := w') (F := F') (M := M') (id := hp.next) (off := 0) (len := l) (cap := c) (cap' := c) h10 rfl c1 (by simp [rep_length, c5]) (.inl rfl)
              simpa using this
        · cases e
end
end Go.Ev

/- Operations: addresses, parts, texts, conversions. -/
namespace Go.Ev
variable [Env]
section
variable {P : Program} {T : Types} {w : World} {F : Fz} {M : Mp} {hp : Hp}

theorem VR.addr_add {x q : PV} {v : Value} (hx : VR w F M x v) {h h' : Hp} {d : Nat} (e : addOff h d (some x) = some (q, h')) :
    h' = h ∧ ∃ b o, v = .pointer (some ⟨b, o, none⟩) ∧ VR w F M q (.pointer (some ⟨b, o + d, none⟩)) := by
  cases hx with
  | ptr hm => simp only [addOff] at e; cases e; exact ⟨rfl, _, _, rfl, by rw [Nat.add_assoc]; exact .ptr hm⟩
  | ep h4 h5 => simp only [addOff] at e; cases e; exact ⟨rfl, _, _, rfl, by rw [Nat.add_assoc]; exact .ep h4 h5⟩
  | _ => simp [addOff] at e

theorem add_spot (b o d : Nat) : (⟨b, o, none⟩ : Addr).add d = ⟨b, o + d, none⟩ := by unfold Addr.add; split <;> simp_all

theorem fieldOf_spec (hT : TOk P T) {s f off ft : Nat} (e : fieldOf T s f = some (off, ft)) : ∃ fs fd, P.underlying s = some (.struct fs) ∧ fs[f]? = some fd ∧ fd.offset = off ∧ fd.type = ft := by
  unfold fieldOf at e
  cases hi : T.get s with
  | none => simp [hi] at e
  | some i =>
    simp only [hi] at e
    cases hk : Nat.beq i.kind 3 with
    | false => simp [hk] at e
    | true =>
      simp only [hk] at e
      obtain ⟨info, u, z, hz, _⟩ := hT.get hi
      obtain ⟨fs, rfl, hf, _⟩ := hz.k3 (Nat.eq_of_beq_eq_true hk)
      rw [hf, List.getElem?_map] at e
      cases hfd : fs.toList[f]? with
      | none => simp [hfd] at e
      | some fd =>
        simp [hfd] at e
        exact ⟨fs, fd, hz.und, by simpa using hfd, e.1, e.2⟩

theorem fieldAddr_sound (hT : TOk P T) {s f : Nat} {x : Option PV} {v : Value} (hx : ∀ q, x = some q → VR w F M q v) {p : PV} {h : Hp}
    (e : primFieldAddr T hp s f x = some (p, h)) : GoodQ w F M ((Instr.fieldAt s v f).run P w) p hp h := by
  unfold primFieldAddr at e
  cases hf : fieldOf T s f with
  | none => simp [hf] at e
  | some of =>
    obtain ⟨off, ft⟩ := of
    simp only [hf] at e
    obtain ⟨fs, fd, h1, h2, rfl, rfl⟩ := fieldOf_spec hT hf
    unfold sizeT at e
    cases hj : T.get fd.type with
    | none => simp [hj] at e
    | some j =>
      obtain ⟨jinfo, ju, jz, js, _⟩ := hT.get hj
      simp only [hj] at e
      cases hb : Nat.ble 1 j.size with
      | false => simp [hb] at e
      | true =>
        simp only [hb] at e
        have hb := Nat.le_of_ble_eq_true hb
        cases x with
        | none => simp [addOff] at e
        | some q =>
          obtain ⟨rfl, b, o, rfl, hv⟩ := (hx q rfl).addr_add e
          refine GoodQ.of ?_ hv
          have hne : ¬ (jinfo.size = 0) := by rw [← js.size]; omega
          simp only [Instr.fieldAt, Sem.run_bind, run_underlying h1, Result.andThen_ok, h2, Instr.sureAddr, Sem.run_pure, fieldPlace, run_sizeOf' w js.hinfo, Sem.run_ite, hne, if_false, add_spot]

theorem field_sound (hT : TOk P T) {s f : Nat} {x : Option PV} {v : Value} (hx : ∀ q, x = some q → VR w F M q v) {p : PV} {h : Hp}
    (e : primField T hp s f x = some (p, h)) : GoodQ w F M ((Instr.field s v f).run P w) p hp h := by
  unfold primField at e
  cases hf : fieldOf T s f with
  | none => simp [hf] at e
  | some of =>
    obtain ⟨off, ft⟩ := of
    simp only [hf] at e
    obtain ⟨fs, fd, h1, h2, rfl, rfl⟩ := fieldOf_spec hT hf
    split at e
    · rename_i cs
      obtain ⟨ys, rfl, hv⟩ := agg_inv (hx _ rfl)
      obtain ⟨h3, rfl⟩ := ret1_some e
      obtain ⟨y, h4, h5⟩ := part_sound hT hv h3
      refine GoodQ.of ?_ h5
      simp only [Instr.field, Sem.run_bind, run_underlying h1, Result.andThen_ok, h2, asAgg, Sem.run_pure, h4]
    · cases e

theorem indexAddr_sound (hT : TOk P T) {t : TypeId} {x i : Option PV} {v u : Value} (hx : ∀ q, x = some q → VR w F M q v) (hi : ∀ q, i = some q → VR w F M q u) {p : PV} {h : Hp}
    (e : primIndexAddr T hp t x i = some (p, h)) : GoodQ w F M ((Instr.indexAt t v u).run P w) p hp h := by
  unfold primIndexAddr at e
  cases x with
  | none => simp at e
  | some q =>
    simp only [] at e
    split at e
    · rename_i _ k n
      cases hi _ rfl
      have e2 := ret1_some e
      clear e
      obtain ⟨e, rfl⟩ := e2
      have hq := hx q rfl
      unfold idxAddr at e
      cases hti : T.get t with
      | none => simp [hti] at e
      | some ti =>
        simp only [hti] at e
        obtain ⟨info, ud, z, hz, _⟩ := hT.get hti
        unfold sizeT at e
        cases hj : T.get ti.elem with
        | none => simp [hj] at e
        | some j =>
          obtain ⟨jinfo, ju, jz, js, _⟩ := hT.get hj
          simp only [hj] at e
          have h0 : (0 : Int) ≤ Int.ofNat n := by simp
          have hn : (Int.ofNat n).toNat = n := rfl
          cases hk : Nat.beq ti.kind 1 with
          | true =>
            simp only [hk] at e
            obtain rfl := hz.k1 (Nat.eq_of_beq_eq_true hk)
            unfold idxSl at e
            cases hq with
            | sl h1 h2 h3 h4 h5 =>
              rename_i es ex b o cap sz f
              simp only [] at e
              cases he : es[n]? with
              | none => simp [he] at e
              | some el =>
                simp only [he] at e
                cases hb : Nat.beq el.length j.size with
                | false => simp [hb] at e
                | true =>
                  simp only [hb] at e; cases e
                  have hb := Nat.eq_of_beq_eq_true hb
                  have hsz : sz = jinfo.size := by rw [← js.size, ← hb]; exact (h3 _ _ he).symm
                  have hlt : n < es.length := (List.getElem?_eq_some_iff.1 he).1
                  have hlt' : (Int.ofNat n) < (es.length : Int) := by simpa using hlt
                  refine GoodQ.of (v := .pointer (some ⟨b, o + n * jinfo.size, none⟩)) ?_ ?_
                  · simp only [Instr.indexAt, asIntOf, Sem.run_bind, Sem.run_pure, Result.andThen_ok, run_underlying hz.und, h0, hlt', and_self, if_true, Sem.run_ite, run_sizeOf' w js.hinfo, hn, add_spot]
                  · have := VR.ep (w := w) (F := F) (M := M) (cs := el) (off := 0) (b := b) (o := o + n * sz) (f := f n)
                      (fun jj c hc => by have := h4 n jj el c he hc; exact this) (fun jj c hc => h5 n jj el c he hc)
                    rw [hsz] at this; simpa using this
            | row hm h0' h1 h2 h3 =>
              rename_i id off len cap cap' rs pl
              simp only [] at e
              cases hb : Nat.blt n len with
              | false => simp [hb] at e
              | true =>
                simp only [hb] at e
                have hb : n < len := by simpa [Nat.blt, Nat.succ_le_iff] using hb
                cases hb2 : Nat.beq rs j.size with
                | false => simp [hb2] at e
                | true =>
                  simp only [hb2] at e; cases e
                  have hlt' : (Int.ofNat n) < (len : Int) := by simpa using hb
                  refine GoodQ.of (v := .pointer (some ⟨pl.b, pl.sh + off + n * jinfo.size, none⟩)) ?_ ?_
                  · simp only [Instr.indexAt, asIntOf, Sem.run_bind, Sem.run_pure, Result.andThen_ok, run_underlying hz.und, h0, hlt', and_self, if_true, Sem.run_ite, run_sizeOf' w js.hinfo, hn, add_spot]
                  · rw [js.size, Nat.add_assoc]; exact .ptr hm
            | _ => simp at e
          | false =>
            simp only [hk] at e
            cases hk2 : Nat.beq ti.kind 2 with
            | false => simp [hk2] at e
            | true =>
              simp only [hk2] at e
              obtain rfl := hz.k2 (Nat.eq_of_beq_eq_true hk2)
              cases hb : Nat.blt n ti.alen with
              | false => simp [hb] at e
              | true =>
                simp only [hb] at e
                have hb : n < ti.alen := by simpa [Nat.blt, Nat.succ_le_iff] using hb
                have hlt' : (Int.ofNat n) < (ti.alen : Int) := by simpa using hb
                have key : ∀ {b o : Nat}, v = .pointer (some ⟨b, o, none⟩) → VR w F M p (.pointer (some ⟨b, o + n * j.size, none⟩)) → GoodQ w F M ((Instr.indexAt t v (.int k (Int.ofNat n))).run P w) p h h := by
                  intro b o hv hvr
                  subst hv
                  refine GoodQ.of ?_ hvr
                  simp only [Instr.indexAt, asIntOf, Sem.run_bind, Sem.run_pure, Result.andThen_ok, run_underlying hz.und, Instr.sureAddr, h0, hlt', and_self, if_true, Sem.run_ite, run_sizeOf' w js.hinfo, hn, add_spot, js.size]
                cases hq with
                | ptr hm => simp only [idxArr] at e; cases e; exact key rfl (by rw [Nat.add_assoc]; exact .ptr hm)
                | ep h4 h5 => simp only [idxArr] at e; cases e; exact key rfl (by rw [Nat.add_assoc]; exact .ep h4 h5)
                | _ => simp [idxArr] at e
    · cases e

theorem index_sound (hT : TOk P T) {t : TypeId} {x i : Option PV} {v u : Value} (hx : ∀ q, x = some q → VR w F M q v) (hi : ∀ q, i = some q → VR w F M q u) {p : PV} {h : Hp}
    (e : primIndex T hp t x i = some (p, h)) : GoodQ w F M ((Instr.index t v u).run P w) p hp h := by
  unfold primIndex at e
  cases hti : T.get t with
  | none => simp [hti] at e
  | some ti =>
    simp only [hti] at e
    obtain ⟨info, ud, z, hz, _⟩ := hT.get hti
    split at e
    · rename_i _ k n
      cases hi _ rfl
      have h0 : (0 : Int) ≤ Int.ofNat n := by simp
      have hn : (Int.ofNat n).toNat = n := rfl
      unfold idxVal at e
      split at e
      · rename_i _ s
        cases hx _ rfl
        cases hk : Nat.beq ti.kind 4 with
        | false => simp [hk] at e
        | true =>
          simp only [hk] at e
          obtain rfl := hz.k4 (Nat.eq_of_beq_eq_true hk)
          cases hb : s.data.toList[n]? with
          | none => simp [hb, byteOf] at e
          | some b =>
            simp only [hb, byteOf] at e; cases e
            refine GoodQ.of (v := .int .u8 b.toNat) ?_ (.v rfl)
            have hsb : s[n]? = some b := by
              have h1 : n < s.data.toList.length := (List.getElem?_eq_some_iff.1 hb).1
              have h2 : n < s.size := by simpa using h1
              have h3 : s[n]? = some s[n] := by simp [h2]
              rw [h3]
              have h4 : s.data.toList[n]? = some s.data.toList[n] := List.getElem?_eq_getElem h1
              rw [h4] at hb
              cases hb
              rfl
            simp only [Instr.index, asIntOf, Sem.run_bind, Sem.run_pure, Result.andThen_ok, run_underlying hz.und, h0, if_true, hn, hsb]
      · rename_i _ cs
        obtain ⟨ys, rfl, hv⟩ := agg_inv (hx _ rfl)
        unfold idxAgg at e
        cases hk : (Nat.beq ti.kind 2 && Nat.blt n ti.alen) with
        | false => simp [hk] at e
        | true =>
          simp only [hk] at e
          simp only [Bool.and_eq_true] at hk
          obtain rfl := hz.k2 (Nat.eq_of_beq_eq_true hk.1)
          have hb : n < ti.alen := by simpa [Nat.blt, Nat.succ_le_iff] using hk.2
          have hlt' : (Int.ofNat n) < (ti.alen : Int) := by simpa using hb
          unfold sizeT at e
          cases hj : T.get ti.elem with
          | none => simp [hj] at e
          | some j =>
            obtain ⟨jinfo, ju, jz, js, _⟩ := hT.get hj
            simp only [hj] at e
            obtain ⟨h3, rfl⟩ := ret1_some e
            obtain ⟨y, h4, h5⟩ := part_sound hT hv h3
            refine GoodQ.of ?_ h5
            rw [js.size] at h4
            simp only [Instr.index, asIntOf, Sem.run_bind, Sem.run_pure, Result.andThen_ok, run_underlying hz.und, h0, hlt', and_self, if_true, Sem.run_ite, run_sizeOf' w js.hinfo, hn, h4]
      · cases e
    · cases e
end
end Go.Ev

/- Operations: the small ones, and cutting. -/
namespace Go.Ev
variable [Env]
section
variable {P : Program} {T : Types} {w : World} {F : Fz} {M : Mp} {hp : Hp}

theorem extract_sound {i : Nat} {x : Option PV} {v : Value} (hx : ∀ q, x = some q → VR w F M q v) {p : PV} {h : Hp}
    (e : primExtract hp i x = some (p, h)) : GoodQ w F M ((Instr.extract v i).run P w) p hp h := by
  unfold primExtract at e
  split at e
  · rename_i _ l
    obtain ⟨h1, rfl⟩ := ret1_some e
    cases hx _ rfl with
    | tup hl hr =>
      rename_i ys
      have hlt : i < ys.length := by rw [hl]; exact (List.getElem?_eq_some_iff.1 h1).1
      refine GoodQ.of ?_ (hr i p ys[i] h1 (List.getElem?_eq_getElem hlt))
      simp [Instr.extract, hlt]
  · cases e

theorem iface_sound (hT : TOk P T) {t : TypeId} {x : Option PV} {v : Value} (hx : ∀ q, x = some q → VR w F M q v) {p : PV} {h : Hp}
    (e : primIface T hp t x = some (p, h)) : GoodQ w F M ((Instr.makeInterface t v).run P w) p hp h := by
  unfold primIface at e
  split at e
  · rename_i _ y
    cases hi : T.get t with
    | none => simp [hi] at e
    | some i =>
      simp only [hi] at e
      obtain ⟨info, u, z, hz, _⟩ := hT.get hi
      cases hk : Nat.beq i.kind 5 with
      | true => simp [hk] at e
      | false =>
        simp only [hk] at e; cases e
        have hne : i.kind ≠ 5 := by intro h'; rw [h'] at hk; cases hk
        cases hx _ rfl with
        | v hf =>
          refine GoodQ.of ?_ (.v (by simpa [flat] using hf))
          have := hz.k5 hne
          simp only [Instr.makeInterface, Sem.run_bind, run_underlying hz.und, Result.andThen_ok]
          all_goals (cases u <;> first | rfl | exact absurd rfl (this _))
  · cases e

theorem conv_sound (hT : TOk P T) {s d : TypeId} {x : Option PV} {v : Value} (hx : ∀ q, x = some q → VR w F M q v) {p : PV} {h : Hp}
    (e : primConv T hp s d x = some (p, h)) : GoodQ w F M ((convert s d v).run P w) p hp h ∨
      (∃ si di q, T.get s = some si ∧ T.get d = some di ∧ di.kind = 4 ∧ si.kind = 1 ∧ isByteT T si.elem = true ∧ x = some q ∧ bytesStr hp (srcCells hp 1 q) = some (p, h)) ∨
      ∃ si di q, T.get s = some si ∧ T.get d = some di ∧ x = some q ∧ convPtr T hp si di q = some (p, h) := by
  unfold primConv at e
  cases hi : T.get s with
  | none => simp [hi] at e
  | some si =>
    cases hj : T.get d with
    | none => simp [hi, hj] at e
    | some di =>
      simp only [hi, hj] at e
      obtain ⟨sinfo, su, sz, hsz, _⟩ := hT.get hi
      obtain ⟨dinfo, du, dz, hdz, _⟩ := hT.get hj
      split at e
      · rename_i _ k0 n
        cases hc : (Nat.beq si.kind 6 && Nat.beq di.kind 6) with
        | false => simp [hc] at e
        | true =>
          simp only [hc] at e
          simp only [Bool.and_eq_true] at hc
          obtain rfl := hsz.k6 (Nat.eq_of_beq_eq_true hc.1)
          obtain rfl := hdz.k6 (Nat.eq_of_beq_eq_true hc.2)
          cases e
          cases hx _ rfl
          refine .inl (GoodQ.of ?_ (.v rfl))
          simp only [convert, Sem.run_bind, run_underlying hsz.und, run_underlying hdz.und, Result.andThen_ok, Conv.intToInt, Sem.run_pure, wrapq_eq]
      · rename_i _ b
        cases hc : (Nat.beq di.kind 4 && Nat.beq si.kind 4) with
        | false => simp [hc] at e
        | true =>
          simp only [hc] at e; cases e
          simp only [Bool.and_eq_true] at hc
          obtain rfl := hdz.k4 (Nat.eq_of_beq_eq_true hc.1)
          obtain rfl := hsz.k4 (Nat.eq_of_beq_eq_true hc.2)
          cases hx _ rfl
          refine .inl (GoodQ.of ?_ (.v rfl))
          simp only [convert, Sem.run_bind, run_underlying hsz.und, run_underlying hdz.und, Result.andThen_ok, Sem.run_pure]
      · rename_i _ q _ _
        cases hc : (Nat.beq di.kind 4 && Nat.beq si.kind 1 && isByteT T si.elem) with
        | false =>
          simp only [hc] at e
          exact .inr (.inr ⟨si, di, q, rfl, rfl, rfl, e⟩)
        | true =>
          simp only [hc] at e
          simp only [Bool.and_eq_true] at hc
          exact .inr (.inl ⟨si, di, q, rfl, rfl, Nat.eq_of_beq_eq_true hc.1.1, Nat.eq_of_beq_eq_true hc.1.2, hc.2, rfl, e⟩)
      · cases e

theorem len_sound (hT : TOk P T) {t ty : TypeId} {x : Option PV} {v : Value} (hx : ∀ q, x = some q → VR w F M q v) {p : PV} {h : Hp}
    (e : primLen T hp t x = some (p, h)) : GoodQ w F M ((Builtin.len_ #[t] ty #[v]).run P w) p hp h := by
  unfold primLen at e
  cases hi : T.get t with
  | none => simp [hi] at e
  | some i =>
    cases x with
    | none => simp [hi] at e
    | some q =>
      simp only [hi] at e
      obtain ⟨info, u, z, hz, _⟩ := hT.get hi
      cases hk : Nat.beq i.kind 1 with
      | true =>
        simp only [hk] at e
        obtain rfl := hz.k1 (Nat.eq_of_beq_eq_true hk)
        have key : ∀ {a : Option Addr} {n c : Nat}, v = .slice a n c → GoodQ w F M ((Builtin.len_ #[t] ty #[v]).run P w) (.v (.int .i64 n)) hp hp := by
          intro a n c hv; subst hv
          refine GoodQ.of (v := goInt n) ?_ (.v rfl)
          simp [Builtin.len_, run_underlying hz.und]
        cases hx q rfl with
        | v hf =>
          unfold lenOf lenRes at e
          split at e
          · cases e
          · rename_i h1
            split at h1
            · rename_i h2; cases h2; cases h1; cases e; exact key rfl
            · rename_i h2; cases h2
            · rename_i h2; cases h2
            · cases h1
        | sl h1 h2 h3 h4 h5 => simp only [lenOf, lenRes] at e; cases e; exact key rfl
        | row h1 h0 h2 h3 h4 => simp only [lenOf, lenRes] at e; cases e; exact key rfl
        | _ => simp [lenOf, lenRes] at e
      | false =>
        simp only [hk] at e
        cases hk2 : Nat.beq i.kind 4 with
        | false => simp [hk2] at e
        | true =>
          simp only [hk2] at e
          obtain rfl := hz.k4 (Nat.eq_of_beq_eq_true hk2)
          split at e
          · rename_i s
            cases e
            cases hx _ rfl
            refine GoodQ.of (v := goInt s.data.toList.length) ?_ (.v rfl)
            have : (s.data.toList.length : Int) = (s.size : Int) := by simp
            simp [Builtin.len_, run_underlying hz.und]
          · cases e

theorem una_sound {op : UnOp} {x q : PV} {v : Value} (hx : VR w F M x v) (e : una op x = some q) : ∃ y, (Op.unary op v).run P w = .ok y w ∧ VR w F M q y := by
  unfold una at e
  split at e
  · cases hx; cases e; exact ⟨_, rfl, .v rfl⟩
  · cases hx; cases e; exact ⟨_, by simp [Op.unary, Op.intArith, wrapq_eq], .v rfl⟩
  · rename_i k n
    cases hx
    have := bitBin_sound (g := fun x y => x ^^^ y) (fun x y => by simp [BitVec.toNat_xor]) e
    subst this
    refine ⟨_, ?_, .v rfl⟩
    cases hk : k.signed <;> simp [Op.unary, Op.intBits, hk]
  · cases e

/-- '==' and '!=' of what is no number and no text -/
theorem eqNil_sound (d : Nat) (hT : TOk P T) {t : TypeId} {i : TyI} (hi : T.get t = some i) {x y : PV} {v u : Value} {r : Bool} (hx : VR w F M x v) (hy : VR w F M y u) (e : eqNil i.kind x y = some r) :
    (Op.equalIn (d + 1) t v u).run P w = .ok r w ∧ (∀ cs, v ≠ .agg cs) ∧ ¬ (v = .nilIface ∧ u = .nilIface) := by
  obtain ⟨info, ud, z, hz, _⟩ := hT.get hi
  unfold eqNil at e
  split at e
  · rename_i hk
    obtain rfl := hz.k1 hk
    have key1 : ∀ {a : Option Addr} {l c : Nat}, v = .slice a l c → u = .slice none 0 0 → r = a.isNone → (Op.equalIn (d + 1) t v u).run P w = .ok r w ∧ (∀ cs, v ≠ .agg cs) ∧ ¬ (v = .nilIface ∧ u = .nilIface) := by
      intro a l c h1 h2 h3; subst h1; subst h2; subst h3
      exact ⟨run_equalIn_slice_nil w d t _ a l c hz.und, by simp, by simp⟩
    have key2 : ∀ {a : Option Addr} {l c : Nat}, u = .slice a l c → v = .slice none 0 0 → r = a.isNone → (Op.equalIn (d + 1) t v u).run P w = .ok r w ∧ (∀ cs, v ≠ .agg cs) ∧ ¬ (v = .nilIface ∧ u = .nilIface) := by
      intro a l c h1 h2 h3; subst h1; subst h2; subst h3
      refine ⟨?_, by simp, by simp⟩
      simp [Op.equalIn, run_underlying hz.und]
    split at e
    · cases hy
      unfold isNilSlice at e
      split at e
      · cases hx; cases e; exact key1 rfl rfl rfl
      · cases hx; cases e; exact key1 rfl rfl rfl
      · cases hx; cases e; exact key1 rfl rfl rfl
      · cases e
    · split at e
      · cases hx
        unfold isNilSlice at e
        split at e
        · cases hy; cases e; exact key2 rfl rfl rfl
        · cases hy; cases e; exact key2 rfl rfl rfl
        · cases hy; cases e; exact key2 rfl rfl rfl
        · cases e
      · cases e
  · rename_i hk
    obtain rfl := hz.k8 hk
    split at e
    · cases hx; cases hy; cases e; exact ⟨by simp [Op.equalIn, run_underlying hz.und], by simp, by simp⟩
    · cases hx; cases hy; cases e; exact ⟨by simp [Op.equalIn, run_underlying hz.und], by simp, by simp⟩
    · cases hx; cases hy; cases e; exact ⟨by simp [Op.equalIn, run_underlying hz.und], by simp, by simp⟩
    · cases e
  · cases e
end
end Go.Ev

/- Operations: two operands; cutting slices and texts. -/
namespace Go.Ev
variable [Env]
section
variable {P : Program} {T : Types} {w : World} {F : Fz} {M : Mp} {hp : Hp}

theorem eqGuard_ok (op : BinOp) (t : TypeId) (x y : Operand) {a b : Value} (h1 : ∀ cs, a ≠ .agg cs) (h2 : ¬ (a = .nilIface ∧ b = .nilIface)) : (eqGuard op t x y a b).run P w = .ok () w := by
  cases op <;> first
    | rfl
    | (cases a <;> first
        | (exact absurd rfl (h1 _))
        | (cases b <;> first
            | rfl
            | (exact absurd ⟨rfl, rfl⟩ h2)))

theorem run_binOp_eql (t : TypeId) (a b : Value) (ha : ∀ k n, a ≠ .int k n) (hs : ∀ s, a ≠ .string s) (hf : ∀ k n, a ≠ .float k n) (hc : ∀ k n m, a ≠ .complex k n m) :
    (binOp .eql t a b).run P w = ((Op.equal t a b).run P w).andThen fun r w' => .ok (.bool r) w' := by
  cases a <;> first
    | (exact absurd rfl (ha _ _)) | (exact absurd rfl (hs _)) | (exact absurd rfl (hf _ _)) | (exact absurd rfl (hc _ _ _))
    | (simp only [binOp, Sem.run_bind, Sem.run_pure])

theorem run_binOp_neq (t : TypeId) (a b : Value) (ha : ∀ k n, a ≠ .int k n) (hs : ∀ s, a ≠ .string s) (hf : ∀ k n, a ≠ .float k n) (hc : ∀ k n m, a ≠ .complex k n m) :
    (binOp .neq t a b).run P w = ((Op.equal t a b).run P w).andThen fun r w' => .ok (.bool !r) w' := by
  cases a <;> first
    | (exact absurd rfl (ha _ _)) | (exact absurd rfl (hs _)) | (exact absurd rfl (hf _ _)) | (exact absurd rfl (hc _ _ _))
    | (simp only [binOp, Sem.run_bind, Sem.run_pure])

theorem VR.no_float {x : PV} {v : Value} (h : VR w F M x v) : (∀ k n, v ≠ .float k n) ∧ (∀ k n m, v ≠ .complex k n m) := by
  cases h with
  | v hf => constructor <;> intros <;> intro e <;> subst e <;> simp [flat] at hf
  | sym =>
    rename_i n
    unfold Env.val
    split <;> exact ⟨by simp, by simp⟩
  | unk h =>
    rcases Env.cases_pv h with g | ⟨b, o, l, c, rfl⟩
    · constructor <;> intros <;> intro e <;> subst e <;> simp [flat] at g
    · exact ⟨by simp, by simp⟩
  | _ => exact ⟨by simp [undef], by simp [undef]⟩

theorem run_equalIn_same (d : Nat) {tp te : TypeId} {j : TypeInfo} (a : Addr) (hp : P.underlying tp = some (.pointer te)) (hte : P.info? te = some j) :
    (Op.equalIn (d + 1) tp (.pointer (some a)) (.pointer (some a))).run P w = .ok true w := by
  simp [Op.equalIn, run_underlying hp, sizeOf, typeInfo, hte, run_sameAddr_same]

theorem eqlOther_sound (hT : TOk P T) {t : TypeId} {x y : PV} {v u : Value} {r : Bool} (ox oy : Operand) (op : BinOp) (hx : VR w F M x v) (hy : VR w F M y u) (e : eqlOther T t x y = some r) :
    (Op.equal t v u).run P w = .ok r w ∧ (eqGuard op t ox oy v u).run P w = .ok () w := by
  unfold eqlOther at e
  cases hi : T.get t with
  | none => simp [hi] at e
  | some i =>
    simp only [hi] at e
    obtain ⟨info, ud, z, hz, _⟩ := hT.get hi
    cases hk : (Nat.beq i.kind 3 || Nat.beq i.kind 2 || Nat.beq i.kind 7) with
    | true =>
      simp only [hk] at e
      cases hq : i.eqok with
      | false => simp [hq] at e
      | true =>
        simp only [hq] at e
        have h1 := eqT_sound (w := w) (F := F) (M := M) hT 100 10000 (by omega) hx hy e
        refine ⟨by simp only [Op.equal, Op.maxDepth]; exact h1, ?_⟩
        -- the guard
        by_cases ha : ∃ cs ds, v = .agg cs ∧ u = .agg ds
        · obtain ⟨cs, ds, rfl, rfl⟩ := ha
          have : i.kind = 2 ∨ i.kind = 3 := by
            simp only [Bool.or_eq_true] at hk
            rcases hk with (hk | hk) | hk
            · exact .inr (Nat.eq_of_beq_eq_true hk)
            · exact .inl (Nat.eq_of_beq_eq_true hk)
            · exfalso
              have hk := Nat.eq_of_beq_eq_true hk
              unfold eqT at e
              simp only [hi, hk] at e
              split at e
              · cases hx
              · cases e
          exact run_eqGuard_agg w op t ox oy cs ds (hz.eqg this hq)
        · unfold eqT at e
          simp only [hi] at e
          split at e
          · split at e
            · cases hx; exact eqGuard_ok op t ox oy (by simp) (by simp)
            · cases e
          · split at e
            · cases hx; exact eqGuard_ok op t ox oy (by simp) (by simp)
            · cases e
          · split at e
            · cases hx; exact eqGuard_ok op t ox oy (by simp) (by simp)
            · split at e
              · rename_i hab
                simp only [Bool.and_eq_true] at hab
                cases hx
                rw [Env.val_str hab.2]
                exact eqGuard_ok op t ox oy (by simp) (by simp)
              · cases e
            · cases e
          · split at e
            · cases e
            · split at e
              · cases hx; cases hy; exact absurd ⟨_, _, rfl, rfl⟩ ha
              · cases e
          · split at e
            · cases hx; cases hy; exact absurd ⟨_, _, rfl, rfl⟩ ha
            · cases e
          · cases e
    | false =>
      simp only [hk] at e
      cases hn : eqNil i.kind x y with
      | some r' =>
        simp only [hn] at e; cases e
        obtain ⟨h1, h2, h3⟩ := eqNil_sound (P := P) 9999 hT hi hx hy hn
        exact ⟨by simp only [Op.equal, Op.maxDepth]; exact h1, eqGuard_ok op t ox oy h2 h3⟩
      | none =>
        simp only [hn] at e
        unfold eqPtr at e
        cases h8 : Nat.beq i.kind 8 with
        | false => simp [h8] at e
        | true =>
          simp only [h8] at e
          obtain rfl := hz.k8 (Nat.eq_of_beq_eq_true h8)
          cases hel : T.get i.elem with
          | none => simp [hel] at e
          | some ei =>
            simp only [hel] at e
            obtain ⟨einfo, eu, ez, hez, _⟩ := hT.get hel
            split at e
            · rename_i a o b o'
              cases hab : (Nat.beq a b && Nat.beq o o') with
              | false => simp [hab] at e
              | true =>
                simp only [hab] at e; cases e
                simp only [Bool.and_eq_true] at hab
                obtain rfl := Nat.eq_of_beq_eq_true hab.1
                obtain rfl := Nat.eq_of_beq_eq_true hab.2
                cases hx with
                | ptr hm =>
                  cases hy with
                  | ptr hm' =>
                    rw [hm] at hm'; cases hm'
                    refine ⟨?_, eqGuard_ok op t ox oy (by simp) (by simp)⟩
                    simp only [Op.equal, Op.maxDepth]
                    exact run_equalIn_same (P := P) 9999 _ hz.und hez.hinfo
            · cases e

theorem bytesLt_refl : ∀ l : List UInt8, bytesLt l l = false
  | [] => rfl
  | a :: l => by
    have h1 : Nat.blt a.toNat a.toNat = false := by
      cases hb : Nat.blt a.toNat a.toNat with
      | false => rfl
      | true =>
        unfold Nat.blt at hb
        have := Nat.le_of_ble_eq_true hb
        omega
    have h2 : Nat.beq a.toNat a.toNat = true := Nat.beq_refl _
    simp only [bytesLt, h1, h2, bytesLt_refl l]

theorem bytesEq_refl' : ∀ l : List UInt8, bytesEq l l = true
  | [] => rfl
  | a :: l => by
    have h2 : Nat.beq a.toNat a.toNat = true := Nat.beq_refl _
    simp only [bytesEq, h2, bytesEq_refl' l]

theorem symBin_some {op : BinOp} {a b : Nat} {p : PV} (e : symBin op a b = some p) (s : ByteArray) : a = b ∧ Nat.beq (a % 2) 0 = true ∧ strBin op s s = some p := by
  unfold symBin at e
  split at e
  · cases e
  · rename_i hab
    simp only [Bool.and_eq_true] at hab
    refine ⟨Nat.eq_of_beq_eq_true hab.1, hab.2, ?_⟩
    split at e
    all_goals first
      | (cases e; done)
      | (cases e; simp [strBin, bytesLt_refl, bytesEq_refl'])

theorem symInt_some {op : BinOp} {a : Nat} {k : IntKind} {m : Int} {p : PV} (e : symInt op a k m = some p) : k = .i64 ∧ a % 2 = 1 ∧ op = .rem ∧ intBin op .i64 (Env.int a) m = some p := by
  unfold symInt at e
  split at e
  · split at e
    · split at e
      · split at e
        · rename_i d _ r hr
          obtain ⟨h1, h2, h3⟩ := Env.rem _ _ _ hr
          cases e
          refine ⟨rfl, h3, rfl, ?_⟩
          have : ieqb (Int.ofNat d) 0 = false := by
            rw [ieqb_eq]
            simp
            exact h2
          simp only [intBin, this]
          rw [← h1]; rfl
        · cases e
      · cases e
    · cases e
  · cases e

theorem bin_sound (hT : TOk P T) {op : BinOp} {t : TypeId} {ox oy : Operand} {x y : Option PV} {v u : Value} (hx : ∀ q, x = some q → VR w F M q v) (hy : ∀ q, y = some q → VR w F M q u)
    {p : PV} {h : Hp} (e : primBin T hp op t x y = some (p, h)) : GoodQ w F M ((do eqGuard op t ox oy v u; binOp op t v u : Sem Value).run P w) p hp h := by
  unfold primBin at e
  cases x with
  | none => simp at e
  | some a =>
    cases y with
    | none => simp at e
    | some b =>
      simp only [] at e
      obtain ⟨e1, rfl⟩ := ret1_some e
      clear e
      have e := e1
      clear e1
      have ha := hx a rfl
      have hb := hy b rfl
      have fin : ∀ {r : Value}, (eqGuard op t ox oy v u).run P w = .ok () w → (binOp op t v u).run P w = .ok r w → VR w F M p r → GoodQ w F M ((do eqGuard op t ox oy v u; binOp op t v u : Sem Value).run P w) p h h := by
        intro r h1 h2 h3
        exact GoodQ.of (by simp only [Sem.run_bind, h1, Result.andThen_ok, h2]) h3
      have oth : otherBin T op t a b = some p → (∀ k n, v ≠ .int k n) → (∀ s, v ≠ .string s) → GoodQ w F M ((do eqGuard op t ox oy v u; binOp op t v u : Sem Value).run P w) p h h := by
        intro e hni hns
        unfold otherBin at e
        split at e
        · cases hq : eqlOther T t a b with
          | none => simp [hq, boolP] at e
          | some r =>
            simp only [hq, boolP] at e; cases e
            obtain ⟨h1, h2⟩ := eqlOther_sound hT ox oy .eql ha hb hq
            exact fin h2 (by rw [run_binOp_eql t v u hni hns ha.no_float.1 ha.no_float.2, h1]; rfl) (.v rfl)
        · cases hq : eqlOther T t a b with
          | none => simp [hq, boolP] at e
          | some r =>
            simp only [hq, boolP] at e; cases e
            obtain ⟨h1, h2⟩ := eqlOther_sound hT ox oy .neq ha hb hq
            exact fin h2 (by rw [run_binOp_neq t v u hni hns ha.no_float.1 ha.no_float.2, h1]; rfl) (.v rfl)
        · cases e
      unfold bin at e
      split at e
      · rename_i n
        cases ha
        split at e
        · rename_i m
          cases hb
          obtain ⟨hnm, hev, e2⟩ := symBin_some e (Env.str n)
          subst hnm
          rw [Env.val_str hev] at fin ⊢
          have hg : (eqGuard op t ox oy (.string (Env.str n)) (.string (Env.str n))).run P w = .ok () w := eqGuard_ok op t ox oy (by simp) (by simp)
          obtain ⟨r, rfl, hf, hr⟩ := strBin_sound (P := P) (w := w) (t := t) e2
          exact fin hg hr (.v hf)
        · rename_i k m
          cases hb
          obtain ⟨hk, hodd, hop, e2⟩ := symInt_some e
          subst hk; subst hop
          rw [Env.val_int hodd] at fin ⊢
          have hg : (eqGuard .rem t ox oy (.int .i64 (Env.int n)) (.int .i64 m)).run P w = .ok () w := eqGuard_ok .rem t ox oy (by simp) (by simp)
          obtain ⟨r, rfl, hf, hr⟩ := intBin_sound (P := P) (w := w) (t := t) ⟨by simp, by simp⟩ e2
          exact fin hg hr (.v hf)
        · cases e
      · cases e
      · rename_i k n
        cases ha
        split at e
        · rename_i k' m
          cases hb
          have hg : (eqGuard op t ox oy (.int k n) (.int k' m)).run P w = .ok () w := eqGuard_ok op t ox oy (by simp) (by simp)
          unfold intOp at e
          split at e
          · obtain ⟨r, rfl, hf, hr⟩ := shiftq_sound (P := P) (w := w) (k' := k') (t := t) e; exact fin hg hr (.v hf)
          · obtain ⟨r, rfl, hf, hr⟩ := shiftq_sound (P := P) (w := w) (k' := k') (t := t) e; exact fin hg hr (.v hf)
          · rename_i hn1 hn2
            by_cases hkk : k = k'
            · subst hkk
              simp only [decide_true] at e
              obtain ⟨r, rfl, hf, hr⟩ := intBin_sound (P := P) (w := w) (t := t) ⟨fun h' => hn1 h', fun h' => hn2 h'⟩ e
              exact fin hg hr (.v hf)
            · simp [hkk] at e
        · cases e
      · rename_i s
        cases ha
        split at e
        · rename_i s'
          cases hb
          have hg : (eqGuard op t ox oy (.string s) (.string s')).run P w = .ok () w := eqGuard_ok op t ox oy (by simp) (by simp)
          obtain ⟨r, rfl, hf, hr⟩ := strBin_sound (P := P) (w := w) (t := t) e
          exact fin hg hr (.v hf)
        · cases e
      · rename_i hn0 hnu hn1 hn2
        refine oth e ?_ ?_
        · intro k n e'
          generalize hv' : v = v' at ha
          rw [e'] at hv'
          cases ha with
          | v => exact hn1 _ _ (by rw [← hv'])
          | sym => exact hn0 _ rfl
          | unk => exact hnu _ rfl
          | _ => simp [undef] at hv'
        · intro s e'
          generalize hv' : v = v' at ha
          rw [e'] at hv'
          cases ha with
          | v => exact hn2 _ (by rw [← hv'])
          | sym => exact hn0 _ rfl
          | unk => exact hnu _ rfl
          | _ => simp [undef] at hv' 

theorem VR_int {k : IntKind} {a b : Int} (h : a = b) : VR w F M (.v (.int k a)) (.int k b) := by subst h; exact .v rfl

theorem minmax_sound {mx : Bool} {l : Option (List PV)} {vs : List Value} (hl : ∀ ps, l = some ps → vs.length = ps.length ∧ ∀ (i : Nat) c y, ps[i]? = some c → vs[i]? = some y → VR w F M c y)
    {p : PV} {h : Hp} (e : primMin hp mx l = some (p, h)) (ts : Array TypeId) (ty : TypeId) :
    GoodQ w F M ((if mx = true then Builtin.max_ ts ty vs.toArray else Builtin.min_ ts ty vs.toArray : Sem Value).run P w) p hp h := by
  unfold primMin at e
  cases l with
  | none => simp at e
  | some ps =>
    simp only [] at e
    obtain ⟨e1, rfl⟩ := ret1_some e
    clear e
    have e := e1
    clear e1
    obtain ⟨h1, h2⟩ := hl ps rfl
    unfold minmax at e
    split at e
    · rename_i k a k' b
      obtain ⟨v, u, rfl⟩ : ∃ v u, vs = [v, u] := by
        match vs, h1 with
        | [v, u], _ => exact ⟨v, u, rfl⟩
      have hv := h2 0 _ _ rfl rfl
      have hu := h2 1 _ _ rfl rfl
      cases hv; cases hu
      by_cases hk : k = k'
      · subst hk
        simp only [decide_true] at e
        cases e
        cases mx with
        | true =>
          refine GoodQ.of (v := .int k (if b > a then b else a)) (by simp [Builtin.max_, Builtin.max2]) ?_
          refine VR_int ?_
          simp only [ileb_eq]
          by_cases hba : b ≤ a
          · simp [hba]; omega
          · simp [hba]
        | false =>
          refine GoodQ.of (v := .int k (if b < a then b else a)) (by simp [Builtin.min_, Builtin.min2]) ?_
          refine VR_int ?_
          simp only [ileb_eq]
          by_cases hba : a ≤ b
          · simp [hba]; omega
          · simp [hba]
      · simp [hk] at e
    · cases e
end
end Go.Ev

/- Operations: cutting. -/
namespace Go.Ev
variable [Env]
section
variable {P : Program} {T : Types} {w : World} {F : Fz} {M : Mp} {hp : Hp}

/-- an operand that may be left out -/
def VO (w : World) (F : Fz) (M : Mp) (x : Option PV) (v : Option Value) : Prop :=
  match x, v with
  | none, none => True
  | some p, some y => VR w F M p y
  | _, _ => False

theorem TS.opdO {tm : Tm} {a : Act} (h : TS tm a w F M) {x : Option Operand} {q : Option PV} (e : Ev.opdO x tm = some q) : VO w F M q (x.map a.eval) := by
  cases x with
  | none => cases e; trivial
  | some x =>
    unfold Ev.opdO someO at e
    cases hx : Ev.opd x tm with
    | none => simp [hx] at e
    | some p => simp only [hx] at e; cases e; exact h.opd hx

theorem bound_none {d hi m : Nat} (h : bound d none hi = some m) : m = d := by simp [bound] at h; exact h.symm

theorem bound_some {d hi m : Nat} {p : PV} {v : Value} (hv : VR w F M p v) (h : bound d (some p) hi = some m) (code : BoundsCode) : m ≤ hi ∧ (Instr.sliceBound v hi code).run P w = .ok m w := by
  unfold bound at h
  simp only [] at h
  split at h
  · rename_i k n
    cases hv
    cases n with
    | negSucc j => cases h
    | ofNat j =>
      simp only [] at h
      cases hb : Nat.ble j hi with
      | false => simp [hb] at h
      | true =>
        simp only [hb] at h; cases h
        have hb := Nat.le_of_ble_eq_true hb
        refine ⟨hb, ?_⟩
        have h1 : (0 : Int) ≤ Int.ofNat m ∧ Int.ofNat m ≤ (hi : Int) := ⟨by simp, by simpa using hb⟩
        simp only [Instr.sliceBound, asIntOf, Sem.run_bind, Sem.run_pure, Result.andThen_ok, h1, and_self, if_true, Sem.run_ite]
        rfl
  · cases h

/-- bounds without a third one -/
theorem bounds2 (isSlice : Bool) {len cap : Nat} {lo hi : Option PV} {l' h' : Option Value} (hl : VO w F M lo l') (hh : VO w F M hi h') {h l : Nat} (e1 : bound len hi cap = some h) (e2 : bound 0 lo h = some l) (hlen : len ≤ cap) :
    l ≤ h ∧ h ≤ cap ∧ ∀ cap', cap ≤ cap' → (Instr.sliceBounds isSlice len cap' l' h' none).run P w = .ok (l, h, cap') w := by
  have hle : h ≤ cap := by
    cases hi with
    | none => rw [bound_none e1]; exact hlen
    | some p =>
      cases h' with
      | none => exact hh.elim
      | some v => exact (bound_some (P := P) hh e1 .sliceB).1
  have hll : l ≤ h := by
    cases lo with
    | none => rw [bound_none e2]; exact Nat.zero_le _
    | some p =>
      cases l' with
      | none => exact hl.elim
      | some v => exact (bound_some (P := P) hl e2 .sliceB).1
  refine ⟨hll, hle, fun cap' hc => ?_⟩
  have rh : ∀ (code : BoundsCode), (match h' with | some v => Instr.sliceBound v cap' code | none => (pure len : Sem Nat)).run P w = .ok h w := by
    intro code
    cases hi with
    | none =>
      cases h' with
      | none => rw [bound_none e1]; rfl
      | some v => exact hh.elim
    | some p =>
      cases h' with
      | none => exact hh.elim
      | some v =>
        have e3 : bound len (some p) cap' = some h := by
          unfold bound at e1 ⊢
          simp only [] at e1 ⊢
          split at e1
          · split at e1
            · rename_i j
              cases hb : Nat.ble j cap with
              | false => simp [hb] at e1
              | true =>
                have : Nat.ble j cap' = true := Nat.ble_eq_true_of_le (Nat.le_trans (Nat.le_of_ble_eq_true hb) hc)
                simp only [hb] at e1; simp only [this]; exact e1
            · cases e1
          · cases e1
        exact (bound_some hh e3 code).2
  have rl : ∀ (code : BoundsCode), (match l' with | some v => Instr.sliceBound v h code | none => (pure 0 : Sem Nat)).run P w = .ok l w := by
    intro code
    cases lo with
    | none =>
      cases l' with
      | none => rw [bound_none e2]; rfl
      | some v => exact hl.elim
    | some p =>
      cases l' with
      | none => exact hl.elim
      | some v => exact (bound_some hl e2 code).2
  unfold Instr.sliceBounds
  cases h' with
  | none =>
    have h1 := rh .sliceB
    have h2 := rl .sliceB
    cases l' <;> simp_all
  | some v =>
    have h1 := rh (if isSlice then .sliceAcap else .sliceAlen)
    have h2 := rl .sliceB
    cases l' <;> simp_all

/-- bounds with a third one -/
theorem bounds3 {len cap : Nat} {lo hi : Option PV} {mx : PV} {l' h' : Option Value} {m' : Value} (hl : VO w F M lo l') (hh : VO w F M hi h') (hm : VR w F M mx m') {m h l : Nat} {q : PV} (hq : hi = some q)
    (e0 : bound 0 (some mx) cap = some m) (e1 : bound 0 hi m = some h) (e2 : bound 0 lo h = some l) :
    l ≤ h ∧ h ≤ m ∧ m ≤ cap ∧ ∀ cap', cap ≤ cap' → (Instr.sliceBounds true len cap' l' h' (some m')).run P w = .ok (l, h, m) w := by
  subst hq
  have h0 := (bound_some (P := P) hm e0 .sliceB).1
  cases h' with
  | none => exact hh.elim
  | some hv =>
    have h1 := (bound_some (P := P) hh e1 .sliceB).1
    have h2 : l ≤ h := by
      cases lo with
      | none => rw [bound_none e2]; exact Nat.zero_le _
      | some p =>
        cases l' with
        | none => exact hl.elim
        | some v => exact (bound_some (P := P) hl e2 .sliceB).1
    refine ⟨h2, h1, h0, fun cap' hc => ?_⟩
    have e3 : bound 0 (some mx) cap' = some m := by
      unfold bound at e0 ⊢
      simp only [] at e0 ⊢
      split at e0
      · split at e0
        · rename_i j
          cases hb : Nat.ble j cap with
          | false => simp [hb] at e0
          | true =>
            have : Nat.ble j cap' = true := Nat.ble_eq_true_of_le (Nat.le_trans (Nat.le_of_ble_eq_true hb) hc)
            simp only [hb] at e0; simp only [this]; exact e0
        · cases e0
      · cases e0
    have r0 := (bound_some (P := P) hm e3 .slice3Acap).2
    have r1 := (bound_some (P := P) hh e1 .slice3B).2
    unfold Instr.sliceBounds
    simp only [Sem.run_bind, if_true, r0, Result.andThen_ok, r1]
    cases lo with
    | none =>
      cases l' with
      | none => rw [bound_none e2]; rfl
      | some v => exact hl.elim
    | some p =>
      cases l' with
      | none => exact hl.elim
      | some v =>
        have r2 := (bound_some (P := P) hl e2 .slice3C).2
        simp [r2]

theorem sliceAt_slice {t e : TypeId} (h : P.underlying t = some (.slice e)) (x : Value) (l h' m : Option Value) : (Instr.sliceAt t x l h' m).run P w = (Instr.slice t x l h' m).run P w := by
  unfold Instr.sliceAt
  simp only [Sem.run_bind, run_underlying h, Result.andThen_ok]
theorem sliceAt_str {t : TypeId} (h : P.underlying t = some .string) (x : Value) (l h' m : Option Value) : (Instr.sliceAt t x l h' m).run P w = (Instr.slice t x l h' m).run P w := by
  unfold Instr.sliceAt
  simp only [Sem.run_bind, run_underlying h, Result.andThen_ok]

/-- a piece of a value's elements -/
theorem sl_piece {es : List (List PV)} {b o sz : Nat} {f : Nat → Nat → Value} (h3 : ∀ (i : Nat) e, es[i]? = some e → e.length = sz)
    (h4 : ∀ (i j : Nat) e c, es[i]? = some e → e[j]? = some c → cellOk c = true ∧ F b (o + i * sz + j) ∧ w.cell? ⟨b, o + i * sz + j, none⟩ = some (f i j))
    (h5 : ∀ (i j : Nat) e c, es[i]? = some e → e[j]? = some c → VR w F noMap c (f i j)) {l h cap o' : Nat} (ho : o' = o + l * sz ∨ (es.take h).drop l = []) {ex : Bool} (hle : l ≤ h) (hh : h ≤ es.length)
    (hex : ex = true → cap = h - l) (hcap : h - l ≤ cap) : VR w F M (.sl ((es.take h).drop l) ex) (.slice (some ⟨b, o', none⟩) (h - l) cap) := by
  have hlen : ((es.take h).drop l).length = h - l := by simp; omega
  have key := VR.sl (w := w) (F := F) (M := M) (es := (es.take h).drop l) (ex := ex) (b := b) (o := o') (cap := cap) (sz := sz) (f := fun i j => f (l + i) j)
    (by rw [hlen]; exact hex) (by rw [hlen]; exact hcap)
    (fun i e he => by
      rw [List.getElem?_drop, List.getElem?_take] at he
      split at he
      · exact h3 _ _ he
      · cases he)
    (fun i j e c he hc => by
      have he' := he
      rw [List.getElem?_drop, List.getElem?_take] at he'
      split at he'
      · rcases ho with rfl | ho
        · have := h4 (l + i) j e c he' hc
          rw [show o + l * sz + i * sz + j = o + (l + i) * sz + j by rw [Nat.add_mul]; omega]
          exact this
        · rw [ho] at he; simp at he
      · cases he')
    (fun i j e c he hc => by
      rw [List.getElem?_drop, List.getElem?_take] at he
      split at he
      · exact h5 (l + i) j e c he hc
      · cases he)
  rw [hlen] at key
  exact key

theorem sliceOf_sound (hT : TOk P T) {t : TypeId} {x p : PV} {v : Value} {lo hi mx : Option PV} {l' h' m' : Option Value} (hx : VR w F M x v) (hl : VO w F M lo l') (hh : VO w F M hi h') (hm : VO w F M mx m')
    (e : sliceOf T t x lo hi mx = some p) : GoodQ w F M ((Instr.sliceAt t v l' h' m').run P w) p hp hp := by
  unfold sliceOf at e
  cases hti : T.get t with
  | none => simp [hti] at e
  | some si =>
    simp only [hti] at e
    obtain ⟨info, u, z, hz, _⟩ := hT.get hti
    cases hk : Nat.beq si.kind 1 with
    | false =>
      simp only [hk] at e
      cases hk4 : Nat.beq si.kind 4 with
      | false => simp [hk4] at e
      | true =>
        simp only [hk4] at e
        obtain rfl := hz.k4 (Nat.eq_of_beq_eq_true hk4)
        split at e
        · rename_i s
          cases hx
          have hm' : m' = none := by cases m' with
            | none => rfl
            | some y => exact hm.elim
          subst hm'
          unfold sliceStr at e
          cases eh : bound s.data.toList.length hi s.data.toList.length with
          | none => simp only [eh] at e; cases e
          | some h =>
            simp only [eh] at e
            cases el : bound 0 lo h with
            | none => simp only [el] at e; cases e
            | some l =>
              simp only [el] at e; cases e
              obtain ⟨h1, h2, h3⟩ := bounds2 (P := P) false hl hh eh el (Nat.le_refl _)
              have h4 := h3 s.data.toList.length (Nat.le_refl _)
              have hsz : s.data.toList.length = s.size := Array.length_toList
              rw [hsz] at h4
              refine GoodQ.of (v := .string (s.extract l h)) ?_ ?_
              · rw [sliceAt_str hz.und]
                unfold Instr.slice
                simp only [Sem.run_bind, run_underlying hz.und, Result.andThen_ok, Option.isSome_none, Bool.false_eq_true, if_false, Sem.run_pure, h4]
              · have : s.extract l h = ⟨⟨(s.data.toList.take h).drop l⟩⟩ := by
                  rw [Lib.extract_eq, ← List.drop_take]
                rw [this]; exact .v rfl
        · cases e
    | true =>
      simp only [hk] at e
      obtain rfl := hz.k1 (Nat.eq_of_beq_eq_true hk)
      unfold sizeT at e
      cases hj : T.get si.elem with
      | none => simp [hj] at e
      | some j =>
        obtain ⟨jinfo, ju, jz, js, _⟩ := hT.get hj
        simp only [hj] at e
        have hrun : ∀ {a : Option Addr} {len cap l h m : Nat}, v = .slice a len cap → (Instr.sliceBounds true len cap l' h' m').run P w = .ok (l, h, m) w →
            (Instr.sliceAt t v l' h' m').run P w = .ok (.slice (if m = l then a else a.map (·.add (l * j.size))) (h - l) (m - l)) w := by
          intro a len cap l h m hv hb
          subst hv
          rw [sliceAt_slice hz.und]
          unfold Instr.slice
          simp only [Sem.run_bind, run_underlying hz.und, Result.andThen_ok, hb, run_sizeOf' w js.hinfo, Sem.run_pure, js.size]
        cases hx with
        | v hf =>
          split at e
          · rename_i hv; cases hv
            unfold sliceNil at e
            cases hhi : hasHigh hi mx with
            | false => simp [hhi] at e
            | true =>
            simp only [hhi] at e
            cases em : bound 0 mx 0 with
            | none => simp [em] at e
            | some m =>
              cases eh : bound 0 hi 0 with
              | none => simp [em, eh] at e
              | some h =>
                cases el : bound 0 lo 0 with
                | none => simp [em, eh, el] at e
                | some l =>
                  simp only [em, eh, el] at e; cases e
                  have hz0 : ∀ {x : Option PV} {y : Option Value} {n : Nat}, VO w F M x y → bound 0 x 0 = some n → n = 0 := by
                    intro x y n hv hb
                    cases x with
                    | none => exact bound_none hb
                    | some q =>
                      cases y with
                      | none => exact hv.elim
                      | some v => have := (bound_some (P := P) hv hb .sliceB).1; omega
                  obtain rfl := hz0 hm em
                  obtain rfl := hz0 hh eh
                  obtain rfl := hz0 hl el
                  refine GoodQ.of (v := .slice none 0 0) ?_ (.v rfl)
                  cases mx with
                  | none =>
                    cases m' with
                    | some y => exact hm.elim
                    | none =>
                      obtain ⟨_, _, g3⟩ := bounds2 (P := P) true hl hh eh el (Nat.le_refl _)
                      rw [hrun rfl (g3 0 (Nat.le_refl _))]; rfl
                  | some mp =>
                    cases m' with
                    | none => exact hm.elim
                    | some mv =>
                      cases hi with
                      | none => simp [hasHigh] at hhi
                      | some hq =>
                        obtain ⟨_, _, _, g3⟩ := bounds3 (P := P) hl hh hm rfl em eh el
                        rw [hrun rfl (g3 0 (Nat.le_refl _))]; rfl
          · rename_i hv; cases hv
          · rename_i hv; cases hv
          · cases e
        | sl h1 h2 h3 h4 h5 =>
          rename_i es ex b o cap sz f
          cases hfit : slFits j.size es with
          | false => simp [hfit] at e
          | true =>
          simp only [hfit] at e
          have hszj : ∀ {l h : Nat}, l ≤ h → h ≤ es.length → o + l * sz = o + l * j.size ∨ (es.take h).drop l = [] := by
            intro l h hlh hh'
            cases hes : es with
            | nil => right; simp
            | cons a r =>
              left
              rw [hes] at hfit
              have q1 : a.length = j.size := Nat.eq_of_beq_eq_true hfit
              have q2 := h3 0 a (by rw [hes]; rfl)
              rw [← q2, q1]
          unfold sliceSl at e
          cases mx with
          | none =>
            have hm' : m' = none := by
              cases m' with
              | none => rfl
              | some y => exact hm.elim
            subst hm'
            simp only [] at e
            cases eh : bound es.length hi es.length with
            | none => simp [eh] at e
            | some h =>
              simp only [eh] at e
              cases el : bound 0 lo h with
              | none => simp [el] at e
              | some l =>
                simp only [el] at e; cases e
                obtain ⟨g1, g2, g3⟩ := bounds2 (P := P) true hl hh eh el (Nat.le_refl _)
                have g4 := g3 cap h2
                refine GoodQ.of (hrun rfl g4) ?_
                have hexx : (ex && Nat.beq h es.length) = true → cap - l = h - l := by
                  intro he
                  simp only [Bool.and_eq_true] at he
                  have q1 := h1 he.1
                  have q2 := Nat.eq_of_beq_eq_true he.2
                  omega
                by_cases hml : cap = l
                · rw [if_pos hml]
                  have hempty : (es.take h).drop l = [] := by
                    apply List.drop_eq_nil_of_le; simp; omega
                  exact sl_piece h3 h4 h5 (.inr hempty) g1 g2 hexx (by omega)
                · rw [if_neg hml]
                  simp only [Option.map_some, add_spot]
                  refine sl_piece h3 h4 h5 ?_ g1 g2 hexx (by omega)
                  rcases hszj g1 g2 with q | q
                  · exact .inl q.symm
                  · exact .inr q
          | some mp =>
            cases m' with
            | none => exact hm.elim
            | some mv =>
              simp only [] at e
              cases em : bound 0 (some mp) es.length with
              | none => simp [em] at e
              | some m =>
                simp only [em] at e
                cases hi with
                | none => simp at e
                | some hq =>
                  simp only [] at e
                  cases eh : bound 0 (some hq) m with
                  | none => simp [eh] at e
                  | some h =>
                    simp only [eh] at e
                    cases el : bound 0 lo h with
                    | none => simp [el] at e
                    | some l =>
                      simp only [el] at e; cases e
                      obtain ⟨g1, g2, g2', g3⟩ := bounds3 (P := P) hl hh hm rfl em eh el
                      have g4 := g3 cap h2
                      refine GoodQ.of (hrun rfl g4) ?_
                      have hexx : Nat.beq m h = true → m - l = h - l := fun he => by rw [Nat.eq_of_beq_eq_true he]
                      by_cases hml : m = l
                      · rw [if_pos hml]
                        have hempty : (es.take h).drop l = [] := by
                          apply List.drop_eq_nil_of_le; simp; omega
                        exact sl_piece h3 h4 h5 (.inr hempty) g1 (by omega) hexx (by omega)
                      · rw [if_neg hml]
                        simp only [Option.map_some, add_spot]
                        refine sl_piece h3 h4 h5 ?_ g1 (by omega) hexx (by omega)
                        rcases hszj (l := l) (h := h) g1 (by omega) with q | q
                        · exact .inl q.symm
                        · exact .inr q
        | row hmm h0 h1 h2 h3 =>
          rename_i id off len cap cap' rs pl
          · cases hbs : Nat.beq rs j.size with
            | false => simp [hbs] at e
            | true =>
              simp only [hbs] at e
              have hbs := Nat.eq_of_beq_eq_true hbs
              have hps : pl.sz = j.size := h0.trans hbs
              have hcc : cap ≤ cap' := by rcases h3 with h3 | h3 <;> omega
              have hlc : len ≤ cap := h1
              unfold sliceRow at e
              have empty : ∀ {bb oo c : Nat} {ex : Bool}, (ex = true → c = 0) → VR w F M (.sl [] ex) (.slice (some ⟨bb, oo, none⟩) 0 c) := by
                intro bb oo c ex hex
                exact VR.sl (es := []) (sz := 0) (f := fun _ _ => undef) (by simpa using hex) (by simp) (by simp) (by simp) (by simp)
              cases mx with
              | none =>
                have hm' : m' = none := by
                  cases m' with
                  | none => rfl
                  | some y => exact hm.elim
                subst hm'
                simp only [] at e
                cases eh : bound len hi cap with
                | none => simp [eh] at e
                | some h =>
                  simp only [eh] at e
                  cases el : bound 0 lo h with
                  | none => simp [el] at e
                  | some l =>
                    simp only [el] at e
                    obtain ⟨g1, g2, g3⟩ := bounds2 (P := P) true hl hh eh el hlc
                    have g4 := g3 cap' hcc
                    refine GoodQ.of (hrun rfl g4) ?_
                    cases hcl : Nat.beq cap l with
                    | true =>
                      simp only [hcl] at e; cases e
                      have hcl := Nat.eq_of_beq_eq_true hcl
                      have hhl : h - l = 0 := by omega
                      rw [hhl]
                      split
                      · exact empty (ex := false) (fun h => Bool.noConfusion h)
                      · simp only [Option.map_some, add_spot]
                        exact empty (ex := false) (fun h => Bool.noConfusion h)
                    | false =>
                      simp only [hcl] at e; cases e
                      have hcl : cap ≠ l := fun e' => by rw [e'] at hcl; simp at hcl
                      have hne : ¬ (cap' = l) := by omega
                      rw [if_neg hne]
                      simp only [Option.map_some, add_spot]
                      rw [← hps, Nat.add_assoc]
                      have hmul : (cap - l) * pl.sz + l * pl.sz = cap * pl.sz := by rw [← Nat.add_mul]; congr 1; omega
                      refine VR.row hmm rfl (by omega) (by omega) ?_
                      rcases h3 with h3 | ⟨h3, h4, h5, h6⟩
                      · left; omega
                      · right
                        have hmul' : (cap' - l) * pl.sz + l * pl.sz = cap' * pl.sz := by rw [← Nat.add_mul]; congr 1; omega
                        exact ⟨h3, by omega, by omega, by omega⟩
              | some mp =>
                cases m' with
                | none => exact hm.elim
                | some mv =>
                  simp only [] at e
                  cases em : bound 0 (some mp) cap with
                  | none => simp [em] at e
                  | some m =>
                    simp only [em] at e
                    cases hi with
                    | none => simp at e
                    | some hq =>
                      simp only [] at e
                      cases eh : bound 0 (some hq) m with
                      | none => simp [eh] at e
                      | some h =>
                        simp only [eh] at e
                        cases el : bound 0 lo h with
                        | none => simp [el] at e
                        | some l =>
                          simp only [el] at e
                          obtain ⟨g1, g2, g2', g3⟩ := bounds3 (P := P) hl hh hm rfl em eh el
                          have g4 := g3 cap' hcc
                          refine GoodQ.of (hrun rfl g4) ?_
                          cases hcl : Nat.beq m l with
                          | true =>
                            simp only [hcl] at e; cases e
                            have hcl := Nat.eq_of_beq_eq_true hcl
                            have hhl : h - l = 0 := by omega
                            rw [hhl, if_pos hcl]
                            exact empty (by intro _; omega)
                          | false =>
                            simp only [hcl] at e; cases e
                            have hcl : m ≠ l := fun e' => by rw [e'] at hcl; simp at hcl
                            rw [if_neg hcl]
                            simp only [Option.map_some, add_spot]
                            rw [← hps, Nat.add_assoc]
                            have hmul : (m - l) * pl.sz + l * pl.sz = m * pl.sz := by rw [← Nat.add_mul]; congr 1; omega
                            have hmc : m * pl.sz ≤ cap * pl.sz := Nat.mul_le_mul_right _ g2'
                            exact VR.row hmm rfl (by omega) (by omega) (.inl rfl)
        | _ => simp at e
end
end Go.Ev

/- Operations: append and copy. -/
namespace Go.Ev
variable [Env]
section
variable {P : Program} {T : Types} {w : World} {F : Fz} {M : Mp} {hp : Hp}

theorem growBy_le (n : Nat) : ∀ (r c : Nat), Builtin.growBy n r c ≤ max c (n + (n + 768) / 4)
  | 0, c => by simp [Builtin.growBy]; omega
  | r + 1, c => by
    unfold Builtin.growBy
    split
    · omega
    · rename_i h
      have := growBy_le n r (c + (c + 768) / 4)
      omega

theorem nextcap_le {n c : Nat} (h : c < n) : Builtin.nextslicecap n c ≤ 2 * n + 1024 := by
  unfold Builtin.nextslicecap
  split
  · omega
  · split
    · omega
    · have := growBy_le n 4 c; omega

theorem limited_spec {need bytes c : Nat} (h : limited need bytes = true) (hc : c < need) : Builtin.nextslicecap need c * bytes ≤ 2 ^ 48 := by
  have h1 := Nat.le_of_ble_eq_true h
  have h2 := nextcap_le hc
  have h3 : Builtin.nextslicecap need c * bytes ≤ (2 * need + 1024) * bytes := Nat.mul_le_mul_right _ h2
  have h4 : (2 : Nat) ^ 48 = 281474976710656 := by decide
  omega

theorem sized_spec {sz : Nat} : ∀ {es : List (List PV)}, sized sz es = true → ∀ e ∈ es, e.length = sz
  | [], _, _, h => by cases h
  | e :: l, h, x, hx => by
    unfold sized at h
    cases hb : Nat.beq e.length sz with
    | false => simp [hb] at h
    | true =>
      simp only [hb] at h
      cases hx with
      | head => exact Nat.eq_of_beq_eq_true hb
      | tail _ hx => exact sized_spec h x hx

theorem flatten_get {sz : Nat} (hs : 0 < sz) : ∀ {es : List (List PV)}, (∀ e ∈ es, e.length = sz) → ∀ (k : Nat) c, es.flatten[k]? = some c → ∃ e, es[k / sz]? = some e ∧ e[k % sz]? = some c
  | [], _, k, c, h => by simp at h
  | e :: l, he, k, c, h => by
    have h0 := he e List.mem_cons_self
    rw [List.flatten_cons] at h
    by_cases hk : k < sz
    · rw [List.getElem?_append_left (by omega)] at h
      exact ⟨e, by rw [Nat.div_eq_of_lt hk]; rfl, by rw [Nat.mod_eq_of_lt hk]; exact h⟩
    · rw [List.getElem?_append_right (by omega), h0] at h
      obtain ⟨e', h1, h2⟩ := flatten_get hs (fun x hx => he x (List.mem_cons_of_mem _ hx)) (k - sz) c h
      refine ⟨e', ?_, ?_⟩
      · rw [show k / sz = (k - sz) / sz + 1 by rw [Nat.div_eq_sub_div hs (by omega)]]; exact h1
      · rw [Nat.mod_eq_sub_mod (by omega)]; exact h2

theorem flatten_length {sz : Nat} : ∀ {es : List (List PV)}, (∀ e ∈ es, e.length = sz) → es.flatten.length = es.length * sz
  | [], _ => by simp
  | e :: l, he => by
    rw [List.flatten_cons, List.length_append, flatten_length (fun x hx => he x (List.mem_cons_of_mem _ hx)), he e List.mem_cons_self]
    simp [Nat.add_mul]; omega

/-- the cells of a value's elements, read -/
theorem sl_cells {es : List (List PV)} {b o sz s : Nat} {f : Nat → Nat → Value} (hs0 : 0 < s) (hsz : sized s es = true) (h3 : ∀ (i : Nat) e, es[i]? = some e → e.length = sz)
    (h4 : ∀ (i j : Nat) e c, es[i]? = some e → e[j]? = some c → cellOk c = true ∧ F b (o + i * sz + j) ∧ w.cell? ⟨b, o + i * sz + j, none⟩ = some (f i j))
    (h5 : ∀ (i j : Nat) e c, es[i]? = some e → e[j]? = some c → VR w F noMap c (f i j)) :
    ∃ ys, VL w F M es.flatten ys ∧ ys.length = es.length * s ∧ ∀ (j : Nat) v, ys[j]? = some v → w.cell? ⟨b, o + j, none⟩ = some v := by
  have he := sized_spec hsz
  have hl := flatten_length he
  refine ⟨(List.range (es.length * s)).map fun k => f (k / s) (k % s), ⟨by simp [hl], ?_⟩, by simp, ?_⟩
  · intro k c y hc hy
    obtain ⟨e, h6, h7⟩ := flatten_get hs0 he k c hc
    have hk : k < es.length * s := by rw [← hl]; exact (List.getElem?_eq_some_iff.1 hc).1
    simp [hk] at hy
    subst hy
    exact ⟨(h4 _ _ _ _ h6 h7).1, (h5 _ _ _ _ h6 h7).mono (fun _ _ h => h) (fun _ _ _ => rfl) (fun _ _ h => by cases h)⟩
  · intro k v hv
    have hk : k < es.length * s := by have := (List.getElem?_eq_some_iff.1 hv).1; simpa using this
    simp [hk] at hv
    subst hv
    have hk' : k < es.flatten.length := by rw [hl]; exact hk
    obtain ⟨e, h6, h7⟩ := flatten_get hs0 he k _ (List.getElem?_eq_getElem hk')
    have h8 := (h4 _ _ _ _ h6 h7).2.2
    have hss : sz = s := by rw [← h3 _ _ h6]; exact he e (List.mem_of_getElem? h6)
    rw [hss] at h8
    rw [show o + k = o + k / s * s + k % s by have := Nat.div_add_mod k s; rw [Nat.mul_comm] at this; omega]
    exact h8

theorem firstCells_some {b o cc len n sz : Nat} {ys : List Value} (hl : ys.length = n * sz) (hc : ∀ (j : Nat) v, ys[j]? = some v → w.cell? ⟨b, o + j, none⟩ = some v) :
    (Builtin.firstCells sz n (.slice (some ⟨b, o, none⟩) len cc)).run P w = .ok ys.toArray w := by
  have := run_loadCells_list (P := P) w ⟨b, o, none⟩ ys (fun j v hj => by rw [add_spot]; exact hc j v hj)
  rw [hl] at this
  simpa [Builtin.firstCells] using this

/-- the source of an append or a copy -/
theorem src_sound (hs : HS hp w F M) {sz n : Nat} (h0 : 0 < sz) {x : PV} {v : Value} {cs : List PV} (hx : VR w F M x v) (e : srcCells hp sz x = some (n, cs)) :
    ∃ ys, VL w F M cs ys ∧ cs.length = n * sz ∧ (∃ a c, v = .slice a n c) ∧ ∀ m, m ≤ n → ∀ {w' : World}, w'.heap = w.heap → (Builtin.firstCells sz m v).run P w' = .ok (ys.take (m * sz)).toArray w' := by
  unfold srcCells at e
  split at e
  · cases hx; cases e
    refine ⟨[], VL.nil, by simp, ⟨none, 0, rfl⟩, fun m hm w' _ => ?_⟩
    simp [Builtin.firstCells]
  · rename_i es ex
    cases hx with
    | sl h1 h2 h3 h4 h5 =>
      rename_i b o cap sz' f
      cases hz : sized sz es with
      | false => simp [hz] at e
      | true =>
        simp only [hz] at e; cases e
        obtain ⟨ys, g1, g2, g3⟩ := sl_cells (M := M) h0 hz h3 h4 h5
        refine ⟨ys, g1, by rw [← g1.1]; exact g2, ⟨_, _, rfl⟩, fun m hm w' hw' => ?_⟩
        refine firstCells_some ?_ ?_
        · rw [List.length_take, g2]; exact Nat.min_eq_left (Nat.mul_le_mul_right _ hm)
        · intro j y hy
          rw [List.getElem?_take] at hy
          split at hy
          · rw [World.cell?_of_block (w := w) (w' := w') (by rw [hw'])]; exact g3 j y hy
          · cases hy
  · rename_i id off len cap rs
    cases hx with
    | row hm h0' h1 h2 h3 =>
      rename_i cap' p
      cases hb : Nat.beq rs sz with
      | false => simp [hb] at e
      | true =>
        simp only [hb] at e
        cases hg : hp.get id with
        | none => simp [hg] at e
        | some b =>
          simp only [hg] at e
          cases hc : cut b.cells off (len * sz) with
          | none => simp [hc] at e
          | some l =>
            simp only [hc] at e; cases e
            obtain ⟨ys, g1, g2, g3⟩ := hs.read hg hm hc
            refine ⟨ys, g1, by rw [← g1.1]; exact g2, ⟨_, _, rfl⟩, fun m hm' w' hw' => ?_⟩
            refine firstCells_some ?_ ?_
            · rw [List.length_take, g2]; exact Nat.min_eq_left (Nat.mul_le_mul_right _ hm')
            · intro j y hy
              rw [List.getElem?_take] at hy
              split at hy
              · rw [World.cell?_of_block (w := w) (w' := w') (by rw [hw'])]; exact g3 j y hy
              · cases hy
  · cases e

/-- what is appended: a slice's or a text's elements, or so many zeros -/
inductive Src (P : Program) (w : World) (u : TypeId) (info : TypeInfo) (z : Value) (x : Value) (n : Nat) (zs : List Value) : Prop where
  | of {ud : TypeDesc} : P.underlying u = some ud → (∀ k, ud ≠ .int k) → (∀ w' : World, (Builtin.lenOf x).run P w' = .ok n w') →
      (∀ w' : World, w'.heap = w.heap → (Builtin.firstCells info.size n x).run P w' = .ok zs.toArray w') → Src P w u info z x n zs
  | zero {k k' : IntKind} : P.underlying u = some (.int k) → x = .int k' (n : Int) → n * info.bytes ≤ 281474976710656 → n ≤ 281474976710656 → info.zero = some z → zs = (Builtin.zeroCells z.cells n).toList → Src P w u info z x n zs

theorem Src.heap {w' : World} {u : TypeId} {info : TypeInfo} {z x : Value} {n : Nat} {zs : List Value} (h : Src P w u info z x n zs) (e : w'.heap = w.heap) : Src P w' u info z x n zs := by
  cases h with
  | of h1 h2 h3 h4 => exact .of h1 h2 h3 fun w2 h => h4 w2 (h.trans e)
  | zero h1 h2 h3 h4 h5 h6 => exact .zero h1 h2 h3 h4 h5 h6

theorem wrap_small {n : Nat} (h : n ≤ 281474976710656) : IntKind.i64.wrap (n : Int) = n := by
  have h1 : ((n : Int) % 2 ^ IntKind.i64.bits) = n := Int.emod_eq_of_lt (by omega) (by simp [IntKind.bits]; omega)
  have h2 : ¬ ((n : Int) ≥ 2 ^ (IntKind.i64.bits - 1)) := by simp [IntKind.bits]; omega
  simp only [IntKind.wrap, h1]
  rw [if_neg]
  simp only [Bool.and_eq_true, decide_eq_true_eq, not_and]
  exact fun _ => h2

theorem matches_no {ud : TypeDesc} (h : ∀ k, ud ≠ .int k) : (match ud with | .int _ => true | _ => false) = false := by
  cases ud <;> first | rfl | exact absurd rfl (h _)

theorem zc_zero {z : Value} {n : Nat} {info : TypeInfo} (h : n * info.size = 0) (hz : z.cells.size = info.size) : Builtin.zeroCells z.cells n = #[] := by
  unfold Builtin.zeroCells
  rw [hz, h]; simp

/-- an append that makes a new row -/
theorem append_new (hs : HS hp w F M) {st e : TypeId} {info : TypeInfo} {z : Value} {sz : Nat} (hu : P.underlying st = some (.slice e)) (hi : P.info? e = some info) (hz : info.zero = some z) (hsz : info.size = sz)
    (hzl : z.cells.size = sz) (hb1 : 1 ≤ info.bytes) {s x : Value} {a : Option Addr} {len cap n : Nat} (hsv : s = .slice a len cap) {u : TypeId} (hgt : cap < len + n)
    (hlim : limited (len + n) info.bytes = true) {old new : List PV} {ys zs : List Value} (hold : VL w F M old ys) (hnew : VL w F M new zs) (hol : ys.length = len * sz) (hnl : zs.length = n * sz)
    (ho : ∀ {w' : World}, w'.heap = w.heap → (Builtin.firstCells sz len s).run P w' = .ok ys.toArray w') (hn : Src P w u info z x n zs)
    (frz : Nat) (ty : TypeId) : GoodV w F M ((Builtin.append_ #[st, u] ty #[s, x]).run P w) (.row hp.next 0 (len + n) (len + n) sz) (hp.new ⟨old ++ new, sz, true, frz, e⟩) := by
  subst hsv; subst hsz
  have hle : len + n ≤ grownCap w (len + n) cap e := by
    unfold grownCap
    simp only [Question.cut]
    exact Nat.le_add_right _ _
  generalize hnc : grownCap w (len + n) cap e = nc at hle
  have hw1 : w.drew.heap = w.heap := rfl
  have hs1 : HS hp w.drew F M := hs.heap hw1
  have hv1 : VL w.drew F M (old ++ new) (ys ++ zs) := (hold.append hnew).heap hw1
  let rest : List Value := (Builtin.zeroCells z.cells (nc - (len + n))).toList
  have hx1 : Ext w w.drew F F M M := Ext.heap hw1 rfl rfl rfl
  obtain ⟨h1, h2⟩ := hs1.new (old ++ new) (ys ++ zs) rest e info.size true frz hv1
  have hlen : (old ++ new).length = (len + n) * info.size := by
    rw [List.length_append, ← hold.1, ← hnew.1, hol, hnl, Nat.add_mul]
  have hrl : rest.length = (nc - (len + n)) * info.size := by
    simp [rest, Builtin.zeroCells, hzl]
  refine ⟨_, _, .slice (some ⟨w.heap.size, 0, none⟩) (len + n) nc, ?_, ?_, h1, hx1.trans h2⟩
  · have hbz : ¬ (info.bytes = 0) := by omega
    have hgt' : ¬ (len + n ≤ cap) := by omega
    have hlim' : ¬ (281474976710656 < Builtin.nextslicecap (len + n) cap * info.bytes) := by have := limited_spec hlim hgt; omega
    have hl63 : ¬ (9223372036854775807 < ((len : Int) + (n : Int))) := by
      have := limited_spec hlim hgt
      have h2 : (len + n) * 1 ≤ Builtin.nextslicecap (len + n) cap * info.bytes := Nat.mul_le_mul (le_nextslicecap hgt) hb1
      omega
    have hfo := ho (w' := w.drew) rfl
    cases hn with
    | of hud hni hlen hfc =>
      have hfn := hfc w.drew rfl
      have hm := matches_no hni
      simp [Builtin.append_, run_underlying hu, run_underlying hud, hm, sizeOf, typeInfo, zeroValue, hi, hz, hlen, hgt', hl63, hlim', Question.forced, hfn, hfo, _root_.Go.newRow, ← hnc, grownCap]
      subst hnc
      simp [rest, grownCap]
      congr 2
      apply Array.ext'
      simp
    | zero hud hx h3 h4 h5 h6 =>
      subst hx
      have hnb : ¬ (281474976710656 < (n : Int) * (info.bytes : Int)) := by
        have : ((n * info.bytes : Nat) : Int) ≤ 281474976710656 := Int.ofNat_le.mpr h3
        push_cast at this
        omega
      have hzs : (if n * info.size = 0 then (pure #[] : Sem (Array Value)) else do pure (Builtin.zeroCells (← zeroValue e).cells n)).run P w.drew = .ok zs.toArray w.drew := by
        subst h6
        by_cases hz0 : n * info.size = 0
        · rw [if_pos hz0, zc_zero hz0 hzl]; simp
        · rw [if_neg hz0]; simp [zeroValue, typeInfo, hi, hz]
      have hz0 : ¬ ((n : Int) < 0) := by omega
      simp [Builtin.append_, run_underlying hu, run_underlying hud, sizeOf, typeInfo, zeroValue, hi, hz, asInt, asIntOf, wrap_small h4, hz0, hnb, hgt', hl63, hlim', Question.forced, hfo, _root_.Go.newRow, hnc]
      have hzr : zs = (if n * info.size = 0 then [] else (Builtin.zeroCells z.cells n).toList) := by
        by_cases hq : n * info.size = 0
        · rw [if_pos hq, h6, zc_zero hq hzl]
        · rw [if_neg hq, h6]
      clear hzs
      rw [hzr]
      by_cases hq : n * info.size = 0
      · simp only [hq, if_true]
        subst hnc
        simp [rest, grownCap]
        congr 2
        apply Array.ext'
        simp
      · simp only [hq, if_false]
        subst hnc
        simp [rest, grownCap]
        congr 2
        apply Array.ext'
        simp
  · have := VR.row (w := w.drew.alloc (.cells ((ys ++ zs) ++ rest).toArray e (0, 0))) (F := F) (M := M.up hp.next ⟨w.drew.heap.size, 0, (old ++ new).length, ((ys ++ zs) ++ rest).length, info.size, true⟩)
      (id := hp.next) (off := 0) (len := len + n) (cap := len + n) (cap' := nc) (Mp.up_self _ _ _) rfl (Nat.le_refl _) (by simp only [hlen]; omega)
      (.inr ⟨rfl, by simp only [hlen]; omega, hle, by
        simp only [List.length_append, hol, hnl, hrl]
        have : (nc - (len + n)) * info.size + (len * info.size + n * info.size) = nc * info.size := by rw [← Nat.add_mul, ← Nat.add_mul]; congr 1; omega
        omega⟩)
    simpa using this
end
end Go.Ev

/- Operations: append, every case. -/
namespace Go.Ev
variable [Env]
section
variable {P : Program} {T : Types} {w : World} {F : Fz} {M : Mp} {hp : Hp}

/-- an append where there is room -/
theorem append_room {st e u : TypeId} {info : TypeInfo} {z x : Value} (hu : P.underlying st = some (.slice e)) (hi : P.info? e = some info) (hzl : z.cells.size = info.size) {g o len cap n : Nat} {cur : Array Value} {be : TypeId}
    (hg : w.heap[g]? = some (.cells cur be (0, 0))) {zs : List Value} (hn : Src P w u info z x n zs) (h1 : ∀ v ∈ zs, v.oneCell' = true)
    (hroom : len + n ≤ cap) (hfit : o + len * info.size + zs.length ≤ cur.size) (ty : TypeId) :
    (Builtin.append_ #[st, u] ty #[.slice (some ⟨g, o, none⟩) len cap, x]).run P w =
      .ok (.slice (some ⟨g, o, none⟩) (len + n) cap) (w.setRow g (cur.toList.take (o + len * info.size) ++ zs ++ cur.toList.drop (o + len * info.size + zs.length)).toArray) := by
  have hst := run_storeCells_at P g (o + len * info.size) be zs 0 cur w hg (by simpa using hfit) h1
  simp only [Nat.add_zero] at hst
  cases hn with
  | of hud hni hlen hfc =>
    have hfn := hfc w rfl
    simp [Builtin.append_, run_underlying hu, run_underlying hud, sizeOf, typeInfo, hi, hlen, hroom, hfn, Addr.add_lit, hst]
  | zero hud hx h3 h4 h5 h6 =>
    subst hx
    have hnb : ¬ (281474976710656 < (n : Int) * (info.bytes : Int)) := by
      have : ((n * info.bytes : Nat) : Int) ≤ 281474976710656 := Int.ofNat_le.mpr h3
      push_cast at this
      omega
    have hz0 : ¬ ((n : Int) < 0) := by omega
    by_cases hq : n * info.size = 0
    · have hzs : zs = [] := by rw [h6, zc_zero hq hzl]
      rw [hzs] at hst
      simp [Builtin.append_, run_underlying hu, run_underlying hud, sizeOf, typeInfo, hi, asInt, asIntOf, wrap_small h4, hz0, hnb, hroom, hq, Addr.add_lit, hst, hzs]
    · rw [h6] at hst ⊢
      simp [Builtin.append_, run_underlying hu, run_underlying hud, sizeOf, typeInfo, zeroValue, hi, h5, asInt, asIntOf, wrap_small h4, hz0, hnb, hroom, hq, Addr.add_lit, hst]

/-- an append of nothing -/
theorem append_none {st e u : TypeId} {info : TypeInfo} {z x : Value} (hu : P.underlying st = some (.slice e)) (hi : P.info? e = some info) {a : Option Addr} {len cap : Nat}
    (hn : Src P w u info z x 0 []) (hroom : len ≤ cap) (ty : TypeId) :
    (Builtin.append_ #[st, u] ty #[.slice a len cap, x]).run P w = .ok (.slice a len cap) w := by
  cases hn with
  | of hud hni hlen hfc =>
    have hfn := hfc w rfl
    cases a <;> simp [Builtin.append_, run_underlying hu, run_underlying hud, sizeOf, typeInfo, hi, hlen, hroom, hfn, storeCells]
  | zero hud hx h3 h4 h5 h6 =>
    subst hx
    have hw := wrap_small (n := 0) (by omega)
    cases a <;> simp [Builtin.append_, run_underlying hu, run_underlying hud, sizeOf, typeInfo, hi, asInt, asIntOf, hroom, storeCells, hw, show IntKind.i64.wrap 0 = 0 from hw]

theorem appTo_sound (hs : HS hp w F M) {t ty u : TypeId} {e1 : TypeId} {info : TypeInfo} {jz : Value} {ei : TyI} (hu : P.underlying t = some (.slice e1)) (hinfo : P.info? e1 = some info) (hzero : info.zero = some jz) (hsz : ei.size = info.size) (hby : ei.bytes = info.bytes)
    (c1 : 1 ≤ ei.size) (c2 : 1 ≤ ei.bytes) (hzl : jz.cells.size = ei.size) {x : PV} {v y : Value} (hx : VR w F M x v) {n : Nat} {new : List PV} {zs : List Value} (hv1 : VL w F M new zs) (hzn : zs.length = n * ei.size)
    (hsrc : Src P w u info jz y n zs) {p : PV} {h : Hp} (e : appTo hp e1 ei x n new = some (p, h)) : GoodV w F M ((Builtin.append_ #[t, u] ty #[v, y]).run P w) p h := by
  have hz0 : n = 0 → zs = [] := fun h => by subst h; exact List.length_eq_zero_iff.1 (by rw [hzn]; simp)
  have none_ok : n = 0 → ∀ {a len cap}, len ≤ cap → (Builtin.append_ #[t, u] ty #[.slice a len cap, y]).run P w = .ok (.slice a len cap) w := by
    intro h0 a len cap hle
    have h3 := hsrc
    rw [hz0 h0] at h3
    subst h0
    exact append_none hu hinfo h3 hle ty
  unfold appTo at e
  split at e
  · -- nil
    cases hx
    unfold appNil at e
    cases h0 : Nat.beq n 0 with
    | true =>
      simp only [h0] at e; cases e
      exact GoodV.of hs (none_ok (Nat.eq_of_beq_eq_true h0) (Nat.le_refl _)) (.v rfl)
    | false =>
      simp only [h0] at e
      have hn0 : n ≠ 0 := by intro h; subst h; simp at h0
      cases hl : limited n ei.bytes with
      | false => simp [hl] at e
      | true =>
        simp only [hl] at e
        unfold newRow at e; cases e
        have := append_new (P := P) hs (st := t) (old := []) (ys := []) (s := .slice none 0 0) hu hinfo hzero hsz.symm hzl (by rw [← hby]; exact c2) rfl (by omega) (by rw [Nat.zero_add, ← hby]; exact hl)
          VL.nil hv1 (by simp) hzn (fun {w'} _ => by simp [Builtin.firstCells]) hsrc 0 ty
        simpa using this
  · -- a slice that is a value
    rename_i es ex
    unfold appSl at e
    cases h0 : Nat.beq n 0 with
    | true =>
      simp only [h0] at e; cases e
      have hx' := hx
      cases hx with
      | sl g1 g2 g3 g4 g5 => exact GoodV.of hs (none_ok (Nat.eq_of_beq_eq_true h0) g2) hx'
    | false =>
      simp only [h0] at e
      have hn0 : n ≠ 0 := by intro h; subst h; simp at h0
      cases hl : (ex && sized ei.size es && limited (es.length + n) ei.bytes) with
      | false => simp [hl] at e
      | true =>
        simp only [hl] at e
        unfold newRow at e; cases e
        simp only [Bool.and_eq_true] at hl
        cases hx with
        | sl g1 g2 g3 g4 g5 =>
          rename_i b o cap sz f
          obtain ⟨ys, k1, k2, k3⟩ := sl_cells (M := M) (by omega) hl.1.2 g3 g4 g5
          have hcap := g1 hl.1.1
          exact append_new (P := P) hs (st := t) hu hinfo hzero hsz.symm hzl (by rw [← hby]; exact c2) rfl (by omega) (by rw [← hby]; exact hl.2)
            k1 hv1 k2 hzn (fun {w'} hw' => firstCells_some k2 fun j y hy => by rw [World.cell?_of_block (w := w) (w' := w') (by rw [hw'])]; exact k3 j y hy) hsrc 0 ty
  · -- a row
    rename_i id off len cap rs'
    unfold appRow at e
    cases hg : hp.get id with
    | none => simp [hg] at e
    | some b =>
      simp only [hg] at e
      cases hb : Nat.beq b.sz ei.size with
      | false => simp [hb] at e
      | true =>
        simp only [hb] at e
        have hb := Nat.eq_of_beq_eq_true hb
        have hx' := hx
        cases hx with
        | row hm h0 h1 h2 h3 =>
          rename_i cap' pl
          have br := hs.br id b pl hg hm
          have hps : pl.sz = ei.size := br.sz.trans hb
          cases hle : Nat.ble (len + n) cap with
          | true =>
            simp only [hle] at e
            have hle := Nat.le_of_ble_eq_true hle
            have hcc : cap ≤ cap' := by
              rcases h3 with h | h
              · omega
              · exact h.2.2.1
            unfold appIn at e
            cases h0 : Nat.beq n 0 with
            | true =>
              simp only [h0] at e; cases e
              exact GoodV.of hs (none_ok (Nat.eq_of_beq_eq_true h0) (by omega)) (.row hm br.sz h1 h2 h3)
            | false =>
              simp only [h0] at e
              cases hf : Nat.ble b.frz (off + len * b.sz) with
              | false => simp [hf] at e
              | true =>
                simp only [hf] at e
                cases hp' : putAt b.cells (off + len * b.sz) new with
                | none => simp [hp'] at e
                | some cs =>
                  simp only [hp'] at e; cases e
                  obtain ⟨c, e', k1, k2, k3, k4⟩ := hs.set hg hm hp' (Nat.le_of_ble_eq_true hf) hv1
                  have hoff : pl.sh + (off + len * b.sz) = pl.sh + off + len * info.size := by rw [hb, hsz]; omega
                  have hr := append_room (P := P) (w := w) hu hinfo (by rw [hzl]; exact hsz) (o := pl.sh + off) (len := len) (cap := cap') k1 hsrc (oneCells hv1) (by omega) (by rw [← hoff]; exact k2) ty
                  rw [← hoff] at hr
                  exact ⟨_, _, _, hr, .row hm br.sz hle h2 h3, k3, k4⟩
          | false =>
            simp only [hle] at e
            have hle : cap < len + n := by
              rcases Nat.lt_or_ge cap (len + n) with h | h
              · exact h
              · rw [Nat.ble_eq_true_of_le h] at hle; cases hle
            unfold appOut at e
            cases hl : limited (len + n) ei.bytes with
            | false => simp [hl] at e
            | true =>
              simp only [hl] at e
              cases hcu : cut b.cells off (len * b.sz) with
              | none => simp [hcu] at e
              | some old =>
                simp only [hcu] at e
                obtain ⟨ys, r1, r2, r3⟩ := hs.read hg hm hcu
                have r2' : ys.length = len * ei.size := by rw [r2, hb]
                have hfo : ∀ {w' : World} {c : Nat}, w'.heap = w.heap → (Builtin.firstCells ei.size len (.slice (some ⟨pl.b, pl.sh + off, none⟩) len c)).run P w' = .ok ys.toArray w' :=
                  fun {w'} {c} hw' => firstCells_some r2' fun j y hy => by rw [World.cell?_of_block (w := w) (w' := w') (by rw [hw'])]; exact r3 j y hy
                cases hlo : (!b.loose || Nat.blt (off + cap * b.sz) b.cells.length) with
                | true =>
                  simp only [hlo] at e
                  unfold newRow at e; cases e
                  have hcc : cap' = cap := by
                    rcases h3 with h | ⟨g1, g2, _, _⟩
                    · exact h
                    · rw [br.loose] at g1
                      simp only [g1, Bool.not_true, Bool.false_or] at hlo
                      have := Nat.le_of_ble_eq_true hlo
                      rw [br.n, br.sz] at g2
                      omega
                  subst hcc
                  rw [hb]
                  exact append_new (P := P) hs (st := t) hu hinfo hzero hsz.symm hzl (by rw [← hby]; exact c2) rfl hle (by rw [← hby]; exact hl) r1 hv1 r2' hzn (fun {w'} hw' => hfo hw') hsrc 0 ty
                | false =>
                  simp only [hlo] at e
                  cases hfz : (Nat.beq len cap && Nat.ble b.frz (off + len * b.sz) && Nat.beq b.ty e1) with
                  | false => simp [hfz] at e
                  | true =>
                    simp only [hfz] at e
                    unfold newRow at e; cases e
                    simp only [Bool.and_eq_true] at hfz
                    have hlc := Nat.eq_of_beq_eq_true hfz.1.1
                    have hfz' := Nat.le_of_ble_eq_true hfz.1.2
                    have hty := Nat.eq_of_beq_eq_true hfz.2
                    clear hfz
                    subst hlc
                    simp only [Bool.or_eq_false_iff, Bool.not_eq_false'] at hlo
                    have hend : off + len * b.sz = b.cells.length := by
                      rw [br.n, br.sz] at h2
                      have : ¬ (off + len * b.sz < b.cells.length) := by
                        intro h
                        have := Nat.ble_eq_true_of_le h
                        rw [show Nat.blt (off + len * b.sz) b.cells.length = Nat.ble (off + len * b.sz + 1) b.cells.length from rfl] at hlo
                        rw [this] at hlo
                        exact absurd hlo.2 (by simp)
                      omega
                    rw [hb]
                    by_cases hroom : len + n ≤ cap'
                    · obtain ⟨g1, g2, g3, g4⟩ : pl.loose = true ∧ off + len * pl.sz = pl.n ∧ len ≤ cap' ∧ pl.sh + off + cap' * pl.sz ≤ pl.B := by
                        rcases h3 with h | h
                        · omega
                        · exact h
                      have hmul : (len + n) * ei.size ≤ cap' * ei.size := Nat.mul_le_mul_right _ hroom
                      rw [Nat.add_mul] at hmul
                      rw [hps] at g4 g2
                      have g5 : pl.sh + pl.n = pl.sh + off + len * ei.size := by omega
                      obtain ⟨c, e', k1, k2, k3⟩ := hs.grow hg hm (off := off) (by omega) (by rw [br.n, ← hend]; exact hfz') hv1 (by omega) (sz := ei.size)
                      have hr := append_room (P := P) (w := w) hu hinfo (by rw [hzl]; exact hsz) (o := pl.sh + off) (len := len) (cap := cap') k1 hsrc (oneCells hv1) hroom (by rw [← hsz, ← g5]; exact k2) ty
                      rw [← hsz, ← g5] at hr
                      have hold : b.cells.drop off = old := by
                        obtain ⟨q1, q2⟩ := cut_spec hcu
                        rw [q1, List.take_of_length_le (by simp; omega)]
                      rw [hold, hty] at k3
                      have hol : (old ++ new).length = (len + n) * ei.size := by rw [List.length_append, ← r1.1, ← hv1.1, r2', hzn, Nat.add_mul]
                      refine ⟨_, _, _, hr, ?_, k3.1, k3.2⟩
                      have := VR.row (w := w.setRow pl.b (c.toList.take (pl.sh + pl.n) ++ zs ++ c.toList.drop (pl.sh + pl.n + zs.length)).toArray) (F := F) (M := M.up hp.next ⟨pl.b, pl.sh + off, (old ++ new).length, pl.B, ei.size, true⟩)
                        (id := hp.next) (off := 0) (len := len + n) (cap := len + n) (cap' := cap') (Mp.up_self _ _ _) rfl (Nat.le_refl _) (by simp only [hol]; omega)
                        (.inr ⟨rfl, by simp only [hol]; omega, hroom, by simp only; omega⟩)
                      rw [show (hp.kill id).next = hp.next from rfl]
                      simpa using this
                    · have hsk := hs.kill id
                      exact append_new (P := P) hsk (st := t) hu hinfo hzero hsz.symm hzl (by rw [← hby]; exact c2) rfl (by omega) (by rw [← hby]; exact hl) r1 hv1 r2' hzn (fun {w'} hw' => hfo hw') hsrc (b.frz - off) ty
  · cases e

theorem app_sound (hT : TOk P T) (hs : HS hp w F M) {t ty : TypeId} {x y : PV} {v u : Value} (hx : VR w F M x v) (hy : VR w F M y u) {p : PV} {h : Hp} (e : app T t hp x y = some (p, h)) :
    GoodV w F M ((Builtin.append_ #[t, t] ty #[v, u]).run P w) p h := by
  unfold app at e
  cases hi : T.get t with
  | none => simp [hi] at e
  | some i =>
    simp only [hi] at e
    cases hk : Nat.beq i.kind 1 with
    | false => simp [hk] at e
    | true =>
      simp only [hk] at e
      obtain ⟨info, ud, z, hz, _⟩ := hT.get hi
      obtain rfl := hz.k1 (Nat.eq_of_beq_eq_true hk)
      cases hj : T.get i.elem with
      | none => simp [hj] at e
      | some ei =>
        simp only [hj] at e
        obtain ⟨jinfo, ju, jz, js, jzo⟩ := hT.get hj
        cases hc : (Nat.ble 1 ei.size && Nat.ble 1 ei.bytes && Nat.beq ei.zero.length ei.size) with
        | false => simp only [hc] at e; cases e
        | true =>
          simp only [hc] at e
          simp only [Bool.and_eq_true] at hc
          obtain ⟨⟨c1, c2⟩, c3⟩ := hc
          have c1 := Nat.le_of_ble_eq_true c1
          have c2 := Nat.le_of_ble_eq_true c2
          have c3 := Nat.eq_of_beq_eq_true c3
          have hzl : jz.cells.size = ei.size := by rw [← c3, js.cells]; simp
          cases hsr : srcCells hp ei.size y with
          | none => simp [hsr] at e
          | some nc =>
            obtain ⟨n, new⟩ := nc
            simp only [hsr] at e
            obtain ⟨zs, hv1, hv2, ⟨ax, cx, rfl⟩, hv3⟩ := src_sound (P := P) hs (by omega) hy hsr
            have hzn : zs.length = n * ei.size := by rw [hv1.1]; exact hv2
            have hsrc : Src P w t jinfo jz (.slice ax n cx) n zs := .of hz.und (fun k => by simp) (fun w' => by simp [Builtin.lenOf]) (fun w' hw' => by
              have := hv3 n (Nat.le_refl _) hw'
              rw [List.take_of_length_le (by omega)] at this
              rwa [js.size] at this)
            exact appTo_sound hs hz.und js.hinfo js.hzero js.size js.bytes c1 c2 hzl hx hv1 hzn hsrc e

theorem appZ_sound (hT : TOk P T) (hs : HS hp w F M) {t ut ty : TypeId} {x y : PV} {v u : Value} (hx : VR w F M x v) (hy : VR w F M y u) {p : PV} {h : Hp} (e : appZ T t ut hp x y = some (p, h)) :
    GoodV w F M ((Builtin.append_ #[t, ut] ty #[v, u]).run P w) p h := by
  unfold appZ at e
  cases hiu : T.get ut with
  | none => simp [hiu] at e
  | some ui =>
    simp only [hiu] at e
    cases hi : T.get t with
    | none => simp [hi] at e
    | some i =>
      simp only [hi] at e
      obtain ⟨uinfo, uud, uz, huz, _⟩ := hT.get hiu
      cases hk : Nat.beq i.kind 1 with
      | false => simp [hk] at e
      | true =>
        simp only [hk] at e
        obtain ⟨info, ud, z, hz, _⟩ := hT.get hi
        obtain rfl := hz.k1 (Nat.eq_of_beq_eq_true hk)
        cases hj : T.get i.elem with
        | none => simp [hj] at e
        | some ei =>
          simp only [hj] at e
          obtain ⟨jinfo, ju, jz, js, jzo⟩ := hT.get hj
          cases hc : (Nat.ble 1 ei.size && Nat.ble 1 ei.bytes && Nat.beq ei.zero.length ei.size) with
          | false => simp only [hc] at e; cases e
          | true =>
            simp only [hc] at e
            simp only [Bool.and_eq_true] at hc
            obtain ⟨⟨c1, c2⟩, c3⟩ := hc
            have c1 := Nat.le_of_ble_eq_true c1
            have c2 := Nat.le_of_ble_eq_true c2
            have c3 := Nat.eq_of_beq_eq_true c3
            have hzl : jz.cells.size = ei.size := by rw [← c3, js.cells]; simp
            cases hn : newZ ui ei y with
            | none => simp [hn] at e
            | some nc =>
              obtain ⟨n, new⟩ := nc
              simp only [hn] at e
              unfold newZ at hn
              split at hn
              · rename_i hku
                obtain rfl := huz.k6 hku
                split at hn
                · rename_i _ k' m
                  cases hl : limited m ei.bytes with
                  | false => simp [hl] at hn
                  | true =>
                    simp only [hl] at hn; cases hn
                    cases hy
                    have hb : n * ei.bytes ≤ 281474976710656 := by
                      have := Nat.le_of_ble_eq_true hl
                      have h2 : n * ei.bytes ≤ (2 * n + 1024) * ei.bytes := Nat.mul_le_mul_right _ (by omega)
                      omega
                    have hb2 : n ≤ 281474976710656 := by
                      have := Nat.le_mul_of_pos_right n c2
                      omega
                    have hmade : VL w F M (rep ei.zero n) (madeCells jz.cells (n * ei.size)).toList := by
                      rw [js.cells]; rw [js.cells] at jzo c3; exact made_VL jzo c3 c1 n
                    have hme : madeCells jz.cells (n * ei.size) = Builtin.zeroCells jz.cells n := by
                      unfold madeCells Builtin.zeroCells
                      rw [hzl]
                    rw [hme] at hmade
                    exact appTo_sound hs hz.und js.hinfo js.hzero js.size js.bytes c1 c2 hzl hx hmade (by simp [Builtin.zeroCells, hzl])
                      (.zero huz.und rfl (by rw [← js.bytes]; exact hb) hb2 js.hzero rfl) e
                · cases hn
              · rename_i hku
                obtain rfl := huz.k4 hku
                split at hn
                · rename_i _ s
                  cases hl : Nat.beq ei.size 1 with
                  | false => simp [hl] at hn
                  | true =>
                    simp only [hl] at hn; cases hn
                    cases hy
                    have h1 := Nat.eq_of_beq_eq_true hl
                    have hv : ∀ l : List UInt8, VL w F M (l.map fun b => PV.v (.int .u8 b.toNat)) (l.map fun b => Value.int .u8 b.toNat) := by
                      intro l
                      induction l with
                      | nil => exact VL.nil
                      | cons b l ih => exact VL.cons rfl (.v rfl) ih
                    have hsz : s.data.toList.length = s.size := Array.length_toList
                    exact appTo_sound hs hz.und js.hinfo js.hzero js.size js.bytes c1 c2 hzl hx (hv s.data.toList) (by simp [h1])
                      (.of huz.und (fun k => by simp) (fun w' => by simp [Builtin.lenOf]) (fun w' _ => by simp [Builtin.firstCells]; apply Array.ext'; simp)) e
                · cases hn
              · cases hn
end
end Go.Ev

/- Operations: copy. -/
namespace Go.Ev
variable [Env]
section
variable {P : Program} {T : Types} {w : World} {F : Fz} {M : Mp} {hp : Hp}

theorem copy_run {st e : TypeId} {info : TypeInfo} (hu : P.underlying st = some (.slice e)) (hi : P.info? e = some info) {g o len cap n m cx : Nat} {ax : Option Addr} {cur : Array Value} {be : TypeId}
    (hg : w.heap[g]? = some (.cells cur be (0, 0))) {zs : List Value} (hm : m = Nat.min n len) (hn : (Builtin.firstCells info.size m (.slice ax n cx)).run P w = .ok zs.toArray w) (h1 : ∀ v ∈ zs, v.oneCell' = true)
    (hfit : o + zs.length ≤ cur.size) (ty : TypeId) :
    (Builtin.copy_ #[st, st] ty #[.slice (some ⟨g, o, none⟩) len cap, .slice ax n cx]).run P w =
      .ok (goInt m) (w.setRow g (cur.toList.take o ++ zs ++ cur.toList.drop (o + zs.length)).toArray) := by
  subst hm
  have hst := run_storeCells_at P g o be zs 0 cur w hg (by simpa using hfit) h1
  simp [Builtin.copy_, run_underlying hu, Builtin.lenOf, sizeOf, typeInfo, hi, hn, hst]

theorem copy_sound (hT : TOk P T) (hs : HS hp w F M) {t ty : TypeId} {x y : PV} {v u : Value} (hx : VR w F M x v) (hy : VR w F M y u) {p : PV} {h : Hp} (e : copyTo T t hp x y = some (p, h)) :
    GoodV w F M ((Builtin.copy_ #[t, t] ty #[v, u]).run P w) p h := by
  unfold copyTo at e
  cases hi : T.get t with
  | none => simp [hi] at e
  | some i =>
    simp only [hi] at e
    cases hk : Nat.beq i.kind 1 with
    | false => simp [hk] at e
    | true =>
      simp only [hk] at e
      obtain ⟨info, ud, z, hz, _⟩ := hT.get hi
      obtain rfl := hz.k1 (Nat.eq_of_beq_eq_true hk)
      unfold sizeT at e
      cases hj : T.get i.elem with
      | none => simp [hj] at e
      | some ei =>
        simp only [hj] at e
        obtain ⟨jinfo, ju, jz, js, jzo⟩ := hT.get hj
        cases hc : Nat.ble 1 ei.size with
        | false => simp [hc] at e
        | true =>
          simp only [hc] at e
          have c1 := Nat.le_of_ble_eq_true hc
          cases hsr : srcCells hp ei.size y with
          | none => simp [hsr] at e
          | some nc =>
            obtain ⟨n, new⟩ := nc
            simp only [hsr] at e
            obtain ⟨zs, hv1, hv2, ⟨ax, cx, rfl⟩, hv3⟩ := src_sound (P := P) hs (by omega) hy hsr
            split at e
            · rename_i id off len cap rs'
              cases hg : hp.get id with
              | none => simp [hg] at e
              | some b =>
                simp only [hg] at e
                cases hb : Nat.beq b.sz ei.size with
                | false => simp [hb] at e
                | true =>
                  simp only [hb] at e
                  have hb := Nat.eq_of_beq_eq_true hb
                  cases hx with
                  | row hm h0 h1 h2 h3 =>
                    rename_i cap' pl
                    unfold copyIn at e
                    cases hf : Nat.ble b.frz off with
                    | false => simp [hf] at e
                    | true =>
                      simp only [hf] at e
                      cases hp' : putAt b.cells off (new.take (Nat.min n len * b.sz)) with
                      | none => simp [hp'] at e
                      | some cs =>
                        simp only [hp'] at e; cases e
                        have hvt : VL w F M (new.take (Nat.min n len * b.sz)) (zs.take (Nat.min n len * b.sz)) := hv1.take _
                        obtain ⟨c, e', k1, k2, k3, k4⟩ := hs.set hg hm hp' (Nat.le_of_ble_eq_true hf) hvt
                        have hfn := hv3 (Nat.min n len) (Nat.min_le_left _ _) (w' := w) rfl
                        rw [← hb] at hfn
                        have hr := copy_run (P := P) (w := w) hz.und js.hinfo (o := pl.sh + off) (len := len) (cap := cap') k1 rfl (by rw [← js.size, ← hb]; exact hfn) (oneCells hvt) k2 ty
                        exact ⟨_, _, _, hr, .v rfl, k3, k4⟩
            · cases e
end
end Go.Ev

/- Operations: maps, bytes as a text, zeros in a row, how far a slice reaches. -/
namespace Go.Ev
variable [Env]
section
variable {P : Program} {T : Types} {w : World} {F : Fz} {M : Mp} {hp : Hp}

/-! ### bytes as a text -/
theorem bytesOf_spec : ∀ {cs : List PV} {l : List UInt8} {ys : List Value}, bytesOf cs = some l → VL w F M cs ys → ∃ ns : List Int, ys = ns.map (Value.int .u8) ∧ l = ns.map fun n => UInt8.ofNat n.toNat
  | [], l, ys, h, hv => by
    cases h
    have : ys = [] := List.length_eq_zero_iff.1 hv.1
    exact ⟨[], this, rfl⟩
  | c :: cs, l, ys, h, hv => by
    cases ys with
    | nil => exact absurd hv.1 (by simp)
    | cons y ys =>
      unfold bytesOf at h
      split at h
      · rename_i heq
        exact absurd heq (by simp)
      · rename_i n r heq
        cases heq
        cases hb : bytesOf cs with
        | none => simp [hb] at h
        | some l' =>
          simp only [hb] at h; cases h
          obtain ⟨ns, h1, h2⟩ := bytesOf_spec hb hv.tail
          have h3 := hv.head.2
          cases h3
          exact ⟨Int.ofNat n :: ns, by simp [h1], by simp [h2]⟩
      · cases h

theorem conv_bytes (hT : TOk P T) (hs : HS hp w F M) {s d : TypeId} {si di : TyI} (hi : T.get s = some si) (hj : T.get d = some di) (hd : di.kind = 4) (hk : si.kind = 1) (hb : isByteT T si.elem = true) {q : PV} {v : Value} (hx : VR w F M q v) {p : PV} {h : Hp}
    (e : bytesStr hp (srcCells hp 1 q) = some (p, h)) : GoodQ w F M ((convert s d v).run P w) p hp h := by
  obtain ⟨sinfo, su, sz, hsz, _⟩ := hT.get hi
  obtain ⟨dinfo, du, dz, hdz, _⟩ := hT.get hj
  obtain rfl := hsz.k1 hk
  obtain rfl := hdz.k4 hd
  unfold isByteT at hb
  cases hel : T.get si.elem with
  | none => simp [hel] at hb
  | some ei =>
    simp only [hel] at hb
    obtain ⟨einfo, eu, ez, hez, _⟩ := hT.get hel
    cases hc : (Nat.beq ei.kind 6 && Nat.beq ei.size 1) with
    | false => simp [hc] at hb
    | true =>
      simp only [hc] at hb
      simp only [Bool.and_eq_true] at hc
      obtain rfl := hez.k6 (Nat.eq_of_beq_eq_true hc.1)
      have hu8 : ei.ik = .u8 := by
        cases hq : ei.ik <;> simp [hq] at hb <;> rfl
      unfold bytesStr at e
      split at e
      · rename_i _ n cs hsr
        cases hl : bytesOf cs with
        | none => simp [hl] at e
        | some l =>
          simp only [hl] at e; cases e
          obtain ⟨ys, h1, h2, ⟨a, c, rfl⟩, h4⟩ := src_sound (P := P) hs (by omega) hx hsr
          obtain ⟨ns, rfl, rfl⟩ := bytesOf_spec hl h1
          have h5 := h4 n (Nat.le_refl _) (w' := w) rfl
          have hle : (ns.map (Value.int .u8)).length = n := by rw [h1.1, h2]; omega
          rw [List.take_of_length_le (by omega)] at h5
          have hez' : P.underlying si.elem = some (.int .u8) := by rw [hez.und, hu8]
          refine GoodQ.of ?_ (.v rfl)
          cases a with
          | none =>
            rw [run_convert_bytes_nil w s si.elem hsz.und hez' n c d hdz.und]
            simp [Builtin.firstCells] at h5
            have : ns = [] := by
              cases ns with
              | nil => rfl
              | cons x r => simp at h5
            subst this
            rfl
          | some ad =>
            rw [run_convert_bytes_string w s d si.elem _ n c hsz.und hez' hdz.und]
            simp [Builtin.firstCells] at h5
            rw [run_bytesToString w ad n c ns (by simpa using h5), foldl_push_bytes]
            simp [ByteArray.empty, ByteArray.emptyWithCapacity]
            rfl
      · cases e

/-- a variable of a type lies at the head of a row of that type -/
theorem liesAt_head {e : TypeId} {count : Nat} (hs : P.cellsOf e ≠ 0) (hc : 1 ≤ count) : liesAt P P.depth e count 0 e 1 = true := by
  have hd : P.depth = (2 * (P.types.size + Made.depth) + 1) + 1 := rfl
  rw [hd]
  simp only [liesAt, Bool.or_eq_true]
  left
  rw [hd]
  simp [rowAt, hs, hc, sameLayout]

/-- a pointer as unsafe.Pointer, and back -/
theorem conv_ptr (hT : TOk P T) (hs : HS hp w F M) {s d : TypeId} {si di : TyI} (hi : T.get s = some si) (hj : T.get d = some di) {q : PV} {v : Value} (hx : VR w F M q v) {p : PV} {h : Hp}
    (e : convPtr T hp si di q = some (p, h)) : GoodQ w F M ((convert s d v).run P w) p hp h := by
  obtain ⟨sinfo, su, sz, hsz, _⟩ := hT.get hi
  obtain ⟨dinfo, du, dz, hdz, _⟩ := hT.get hj
  unfold convPtr at e
  split at e <;> try (cases e; done)
  rename_i id off
  cases hg : hp.get id with
  | none => simp [hg] at e
  | some b =>
    simp only [hg] at e
    cases hx with
    | ptr hm =>
      rename_i pl
      have br := hs.br id b pl hg hm
      obtain ⟨c, h1⟩ := br.ty.2
      obtain ⟨c', e', k1, k2, k3, _⟩ := br.blk
      rw [h1] at k1; cases k1
      have hsh : w.shape? pl.b = some (b.ty, c.size) := by simp [World.shape?, h1]
      cases hc : (Nat.beq si.kind 8 && Nat.beq di.kind 10) with
      | true =>
        simp only [hc] at e
        simp only [Bool.and_eq_true] at hc
        obtain rfl := hsz.k8 (Nat.eq_of_beq_eq_true hc.1)
        obtain rfl := hdz.k10 (Nat.eq_of_beq_eq_true hc.2)
        cases hel : T.get si.elem with
        | none => simp [hel] at e
        | some ti =>
          simp only [hel] at e
          obtain ⟨tinfo, tu, tz, htz, _⟩ := hT.get hel
          split at e <;> try (cases e; done)
          rename_i hlt
          cases e
          simp only [Bool.and_eq_true] at hlt
          have g1 := Nat.le_of_ble_eq_true hlt.1
          have g2 : off + 1 ≤ b.cells.length := Nat.le_of_ble_eq_true hlt.2
          refine GoodQ.of (Lib.run_to_unsafe w ⟨pl.b, pl.sh + off, none⟩ hsz.und hdz.und htz.hinfo (by rw [← htz.size]; omega) hsh ?_) (.ptr hm)
          have := br.n
          show pl.sh + off < c.size
          omega
      | false =>
        simp only [hc] at e
        split at e <;> try (cases e; done)
        rename_i hc2
        simp only [Bool.and_eq_true, Bool.not_eq_true'] at hc2
        obtain ⟨⟨⟨⟨c1, c2⟩, c3⟩, c4⟩, c5⟩ := hc2
        obtain rfl := hsz.k10 (Nat.eq_of_beq_eq_true c1)
        obtain rfl := hdz.k8 (Nat.eq_of_beq_eq_true c2)
        obtain rfl := Nat.eq_of_beq_eq_true c3
        have c4 := Nat.eq_of_beq_eq_true c4
        cases hel : T.get di.elem with
        | none => simp [hel] at e
        | some ui =>
          simp only [hel] at e
          obtain ⟨uinfo, uu, uz, huz, _⟩ := hT.get hel
          split at e <;> try (cases e; done)
          rename_i hlt
          cases e
          simp only [Bool.and_eq_true] at hlt
          have g1 := Nat.le_of_ble_eq_true hlt.1
          have g2 := Nat.le_of_ble_eq_true hlt.2
          have hsh0 : pl.sh = 0 := br.ty.1 c5
          have hcells : P.cellsOf di.elem = ui.size := by simp [Program.cellsOf, huz.hinfo, huz.size]
          refine GoodQ.of (Lib.run_from_unsafe w ⟨pl.b, pl.sh + 0, none⟩ hsz.und hdz.und huz.hinfo hsh ?_) (.ptr hm)
          rw [← c4, hsh0]
          refine liesAt_head (by rw [hcells]; omega) ?_
          rw [hcells]
          have := br.n
          exact (Nat.le_div_iff_mul_le (by omega)).2 (by omega)

theorem conv_all (hT : TOk P T) (hs : HS hp w F M) {s d : TypeId} {x : Option PV} {v : Value} (hx : ∀ q, x = some q → VR w F M q v) {p : PV} {h : Hp}
    (e : primConv T hp s d x = some (p, h)) : GoodQ w F M ((convert s d v).run P w) p hp h := by
  rcases conv_sound hT hx e with g | ⟨si, di, q, h1, h2, h3, h4, h5, h6, h7⟩ | ⟨si, di, q, h1, h2, h6, h7⟩
  · exact g
  · exact conv_bytes hT hs h1 h2 h3 h4 h5 (hx q h6) h7
  · exact conv_ptr hT hs h1 h2 (hx q h6) h7

theorem conv_int (hT : TOk P T) {s d : TypeId} {x : Option PV} {v : Value} (hx : ∀ q, x = some q → VR w F M q v) {k : IntKind} {n : Int} {h : Hp}
    (e : primConv T hp s d x = some (.v (.int k n), h)) : GoodQ w F M ((convert s d v).run P w) (.v (.int k n)) hp h := by
  rcases conv_sound hT hx e with g | ⟨si, di, q, h1, h2, h3, h4, h5, h6, h7⟩ | ⟨si, di, q, h1, h2, h6, h7⟩
  · exact g
  · unfold bytesStr at h7
    split at h7
    · split at h7 <;> cases h7
    · cases h7
  · exfalso
    unfold convPtr at h7
    repeat' (split at h7)
    all_goals (cases h7)

/-! ### how far a slice reaches -/
theorem cap_sound (hT : TOk P T) (hs : HS hp w F M) {t ty : TypeId} {x : Option PV} {v : Value} (hx : ∀ q, x = some q → VR w F M q v) {p : PV} {h : Hp}
    (e : primCap T hp t x = some (p, h)) : GoodQ w F M ((Builtin.cap_ #[t] ty #[v]).run P w) p hp h := by
  unfold primCap at e
  cases hi : T.get t with
  | none => simp [hi] at e
  | some i =>
    simp only [hi] at e
    obtain ⟨info, u, z, hz, _⟩ := hT.get hi
    cases hk : Nat.beq i.kind 1 with
    | false => simp [hk] at e
    | true =>
      simp only [hk] at e
      obtain rfl := hz.k1 (Nat.eq_of_beq_eq_true hk)
      cases x with
      | none => simp at e
      | some q =>
        simp only [] at e
        have hq := hx q rfl
        have key : ∀ {a : Option Addr} {n c : Nat}, v = .slice a n c → GoodQ w F M ((Builtin.cap_ #[t] ty #[v]).run P w) (.v (.int .i64 c)) hp hp := by
          intro a n c hv; subst hv
          refine GoodQ.of (v := goInt c) ?_ (.v rfl)
          simp [Builtin.cap_, run_underlying hz.und]
        unfold capOf at e
        split at e
        · cases hq; simp only [lenRes] at e; cases e; exact key rfl
        · rename_i es
          cases hq with
          | sl h1 h2 h3 h4 h5 =>
            simp only [lenRes] at e; cases e
            have := h1 rfl
            subst this
            exact key rfl
        · rename_i id _ _ cap _
          cases hq with
          | row hm h0 h1 h2 h3 =>
            cases hg : hp.get id with
            | none => simp [hg, lenRes] at e
            | some b =>
              simp only [hg] at e
              cases hlo : b.loose with
              | true => simp [hlo, lenRes] at e
              | false =>
                simp only [hlo, lenRes] at e; cases e
                rcases h3 with h | h
                · subst h; exact key rfl
                · have := (hs.br _ _ _ hg hm).loose
                  rw [h.1, hlo] at this; cases this
        · simp [lenRes] at e

/-! ### zeros in the place of a row's elements -/
theorem clear_sound (hT : TOk P T) (hs : HS hp w F M) {t ty : TypeId} {x : PV} {v : Value} (hx : VR w F M x v) {p : PV} {h : Hp}
    (e : primClear T hp t (some x) = some (p, h)) : GoodV w F M ((Builtin.clear_ #[t] ty #[v]).run P w) p h := by
  unfold primClear at e
  cases hi : T.get t with
  | none => simp [hi] at e
  | some i =>
    simp only [hi] at e
    obtain ⟨info, u, z, hz, _⟩ := hT.get hi
    cases hk : Nat.beq i.kind 1 with
    | false => simp [hk] at e
    | true =>
      simp only [hk] at e
      obtain rfl := hz.k1 (Nat.eq_of_beq_eq_true hk)
      cases hj : T.get i.elem with
      | none => simp [hj] at e
      | some ei =>
        simp only [hj] at e
        obtain ⟨jinfo, ju, jz, js, jzo⟩ := hT.get hj
        have nothing : ∀ {a : Option Addr} {c : Nat}, v = .slice a 0 c → GoodV w F M ((Builtin.clear_ #[t] ty #[v]).run P w) (.tup []) hp := by
          intro a c hv; subst hv
          refine GoodV.of hs (v := .tuple #[]) ?_ (.tup rfl (fun i c y h => by simp at h))
          cases a <;> simp [Builtin.clear_, run_underlying hz.und]
        unfold clearOf at e
        split at e
        · cases hx; cases e; exact nothing rfl
        · cases hx with
          | sl => cases e; exact nothing rfl
        · rename_i id off len cap rs
          cases h0 : Nat.beq len 0 with
          | true =>
            simp only [h0] at e; cases e
            have := Nat.eq_of_beq_eq_true h0
            subst this
            cases hx
            exact nothing rfl
          | false =>
            simp only [h0] at e
            have hn0 : len ≠ 0 := by intro h; subst h; simp at h0
            unfold clearIn at e
            cases hg : hp.get id with
            | none => simp [hg] at e
            | some b =>
              simp only [hg] at e
              cases hc : (Nat.beq b.sz ei.size && Nat.beq ei.zero.length ei.size && Nat.ble b.frz off) with
              | false => simp only [hc] at e; cases e
              | true =>
                simp only [hc] at e
                simp only [Bool.and_eq_true] at hc
                obtain ⟨⟨c1, c2⟩, c3⟩ := hc
                have c1 := Nat.eq_of_beq_eq_true c1
                have c2 := Nat.eq_of_beq_eq_true c2
                have c3 := Nat.le_of_ble_eq_true c3
                cases hp' : putAt b.cells off (rep ei.zero len) with
                | none => simp [hp'] at e
                | some cs =>
                  simp only [hp'] at e; cases e
                  cases hx with
                  | row hm h1 h2 h3 h4 =>
                    have hv : VL w F M (rep ei.zero len) (Builtin.zeroCells jz.cells len).toList := by
                      by_cases hs0 : ei.size = 0
                      · have : ei.zero = [] := List.length_eq_zero_iff.1 (by omega)
                        have hz0 : jz.cells = #[] := by rw [js.cells] at this; exact Array.toList_eq_nil_iff.1 this
                        refine ⟨by simp [Builtin.zeroCells, hz0, rep_length, this], fun i c y h => ?_⟩
                        have := (List.getElem?_eq_some_iff.1 h).1
                        simp [rep_length, ‹ei.zero = []›] at this
                      · have hmade : VL w F M (rep ei.zero len) (madeCells jz.cells (len * ei.size)).toList := by
                          rw [js.cells]; rw [js.cells] at jzo c2; exact made_VL jzo c2 (by omega) len
                        have hzl : jz.cells.size = ei.size := by rw [← c2, js.cells]; simp
                        have hme : madeCells jz.cells (len * ei.size) = Builtin.zeroCells jz.cells len := by
                          unfold madeCells Builtin.zeroCells
                          rw [hzl]
                        rwa [hme] at hmade
                    obtain ⟨c, e', k1, k2, k3, k4⟩ := hs.set hg hm hp' c3 hv
                    rename_i cap' pl
                    have hst := run_storeCells_at P pl.b (pl.sh + off) e' (Builtin.zeroCells jz.cells len).toList 0 c w k1 (by simpa using k2) (oneCells hv)
                    simp only [Nat.add_zero] at hst
                    refine ⟨_, _, .tuple #[], ?_, .tup rfl (fun i c y h => by simp at h), k3, k4⟩
                    obtain ⟨m, rfl⟩ := Nat.exists_eq_succ_of_ne_zero hn0
                    simp [Builtin.clear_, run_underlying hz.und, zeroValue, typeInfo, js.hinfo, js.hzero, hst]
        · cases e
end
end Go.Ev

/- Operations: maps. -/
namespace Go.Ev
variable [Env]
section
variable {P : Program} {T : Types} {w : World} {F : Fz} {M : Mp} {hp : Hp}

theorem zeroPV_sound (hT : TOk P T) {t : TypeId} {p : PV} (h : zeroPV T t = some p) (hf : zForm P t = true) : ∃ z, (zeroValue t).run P w = .ok z w ∧ VR w F M p z := by
  unfold zeroPV at h
  cases hi : T.get t with
  | none => simp [hi] at h
  | some i =>
    simp only [hi] at h
    obtain ⟨info, u, z, hz, hzo⟩ := hT.get hi
    refine ⟨z, run_zeroValue' w hz.hinfo hz.hzero, ?_⟩
    unfold zForm at hf
    simp only [hz.hinfo, hz.und, hz.hzero] at hf
    have hag := hz.agg
    cases ha : i.isAgg with
    | true =>
      simp only [ha] at h; cases h
      rw [ha] at hag
      cases z with
      | agg cs =>
        have : i.zero = cs.toList := hz.cells
        rw [this] at hzo ⊢
        have := (zero_VL (w := w) (F := F) (M := M) hzo).agg
        simpa using this
      | _ => cases u <;> simp [aggForm] at hf hag
    | false =>
      simp only [ha] at h
      rw [ha] at hag
      have hna : ∀ cs, z ≠ .agg cs := by
        intro cs e; subst e
        cases u <;> simp [aggForm] at hf hag
      have hc : z.cells = #[z] := by
        cases z <;> first | rfl | exact absurd rfl (hna _)
      have : i.zero = [z] := by rw [hz.cells, hc]
      rw [this] at h hzo
      simp only [] at h; cases h
      simp only [zeroOk, Bool.and_eq_true] at hzo
      exact .v hzo.1.1

theorem keyEq_sound (hT : TOk P T) {t : TypeId} {i : TyI} (hi : T.get t = some i) {ud : TypeDesc} (hu : P.underlying t = some ud) {a b : PV} {x y : Value} {r : Bool} (ha : VR w F M a x) (hb : VR w F M b y) (e : keyEq i.kind a b = some r) :
    Instr.sameNow ud x y = some r ∧ (∀ n c, (Instr.checkKey c (n + 1) t x).run P w = .ok () w) ∧ (r = true → ∀ n, Instr.sameBits (n + 1) y x = true) := by
  obtain ⟨info, u, z, hz, _⟩ := hT.get hi
  have : u = ud := Option.some.inj (hz.und.symm.trans hu)
  subst this
  unfold keyEq at e
  split at e
  · rename_i hk
    obtain rfl := hz.k6 hk
    split at e
    · rename_i k m k' n
      cases ha; cases hb
      split at e
      · rename_i hkk
        cases e
        have hkk : k = k' := by simpa using hkk
        subst hkk
        refine ⟨by simp [Instr.sameNow, ieqb_eq], fun n c => by simp [Instr.checkKey, run_underlying hz.und], fun hr n => ?_⟩
        rw [ieqb_eq] at hr
        simp at hr
        simp [Instr.sameBits, hr]
      · cases e
    · cases e
  · rename_i hk
    obtain rfl := hz.k7 hk
    split at e
    · cases ha; cases hb; cases e
      refine ⟨by simp [Instr.sameNow], fun n c => by simp [Instr.checkKey, run_underlying hz.und], fun hr n => ?_⟩
      simp at hr
      simp [Instr.sameBits, hr]
    · cases e
  · rename_i hk
    obtain rfl := hz.k4 hk
    split at e
    · rename_i m n
      cases ha; cases hb
      cases e
      have hx : (m == n) = bytesEq m.data.toList n.data.toList := by
        rw [bytesEq_eq, Bool.eq_iff_iff, MapKept.bytes_beq]
        constructor
        · intro h; rw [h]; exact beq_self_eq_true _
        · intro h
          have h : m.data.toList = n.data.toList := eq_of_beq h
          cases m; cases n
          congr 1
          exact Array.ext' h
      refine ⟨by simp [Instr.sameNow, hx], fun n c => by simp [Instr.checkKey, run_underlying hz.und], fun hr n => ?_⟩
      rw [← hx, MapKept.bytes_beq] at hr
      subst hr
      simp [Instr.sameBits, MapKept.bytes_beq]
    · cases e
  · cases e

theorem mapFind_sound (hT : TOk P T) {t : TypeId} {i : TyI} (hi : T.get t = some i) {ud : TypeDesc} (hu : P.underlying t = some ud) {a : PV} {x : Value} (ha : VR w F M a x) :
    ∀ (es : List (PV × PV)) (ms : List MapEntry) (n : Nat) (r : Option (Nat × PV)), ms.length = es.length →
      (∀ (j : Nat) k v, es[j]? = some (k, v) → ∃ e, ms[j]? = some e ∧ VR w F M k e.key ∧ VR w F M v e.val) → mapFind i.kind a es n = some r →
      (r = none ∧ Instr.findNow ud x ms n = some none) ∨ ∃ (m : Nat) (e : MapEntry) (p : PV), r = some (n + m, p) ∧ ms[m]? = some e ∧ VR w F M p e.val ∧ Instr.findNow ud x ms n = some (some (n + m, e.val)) ∧ ∀ q, Instr.sameBits (q + 1) e.key x = true
  | [], ms, n, r, hl, hr, h => by
    have : ms = [] := List.length_eq_zero_iff.1 hl
    subst this
    cases h
    exact .inl ⟨rfl, rfl⟩
  | (q, v) :: es, ms, n, r, hl, hr, h => by
    obtain ⟨e, h1, h2, h3⟩ := hr 0 q v rfl
    cases ms with
    | nil => simp at h1
    | cons e' ms =>
      simp at h1; subst h1
      unfold mapFind at h
      cases hk : keyEq i.kind a q with
      | none => simp [hk] at h
      | some b =>
        obtain ⟨g1, _, g3⟩ := keyEq_sound hT hi hu ha h2 hk
        cases b with
        | true =>
          simp only [hk] at h; cases h
          exact .inr ⟨0, e', v, rfl, rfl, h3, by simp [Instr.findNow, g1], g3 rfl⟩
        | false =>
          simp only [hk] at h
          rcases mapFind_sound hT hi hu ha es ms (n + 1) r (by simpa using hl) (fun j k v hj => hr (j + 1) k v (by simpa using hj)) h with ⟨k1, k2⟩ | ⟨m, e, p, k1, k2, k3, k4, k5⟩
          · exact .inl ⟨k1, by simp [Instr.findNow, g1, k2]⟩
          · exact .inr ⟨m + 1, e, p, by rw [k1]; congr 2; omega, by simpa using k2, k3, by simp only [Instr.findNow, g1, k4]; congr 3; omega, k5⟩

theorem mp_inv {id : Nat} {v : Value} (h : VR w F M (.mp id) v) : ∃ p, M id = some p ∧ v = .map (some p.b) := by
  cases h with
  | mp h => exact ⟨_, h, rfl⟩

/-- what a map holds, in the world -/
theorem entries_sound (hs : HS hp w F M) {x : PV} {v : Value} (hx : VR w F M x v) {es : List (PV × PV)} (e : mapEntries hp x = some es) :
    ∃ ms : Array MapEntry, ms.size = es.length ∧ (∀ (j : Nat) k v, es[j]? = some (k, v) → ∃ e, ms[j]? = some e ∧ VR w F M k e.key ∧ VR w F M v e.val) ∧
      ((v = .map none ∧ ms = #[]) ∨ ∃ r c, v = .map (some r) ∧ (getObj r).run P w = .ok (.map ms c) w) := by
  unfold mapEntries at e
  split at e
  · cases hx; cases e
    exact ⟨#[], rfl, fun j k v h => by simp at h, .inl ⟨rfl, rfl⟩⟩
  · rename_i id
    obtain ⟨p, hm, rfl⟩ := mp_inv hx
    split at e
    · rename_i es' hg
      cases e
      cases hs.ms.mp id _ p hg hm with
      | map h1 h2 h3 => exact ⟨_, h2, h3, .inr ⟨_, _, rfl, MapKept.run_getObj_map h1⟩⟩
    · cases e
  · cases e

theorem look_sound (hT : TOk P T) (hs : HS hp w F M) {t : TypeId} {ok : Bool} {x k : Option PV} {v u : Value} (hx : ∀ q, x = some q → VR w F M q v) (hk : ∀ q, k = some q → VR w F M q u) {p : PV} {h : Hp}
    (e : primLook T hp t ok x k = some (p, h)) : GoodQ w F M ((Instr.lookup t v u ok).run P w) p hp h := by
  unfold primLook at e
  cases hi : T.get t with
  | none => simp [hi] at e
  | some i =>
    simp only [hi] at e
    obtain ⟨info, ud, z, hz, _⟩ := hT.get hi
    cases hk9 : Nat.beq i.kind 9 with
    | false => simp [hk9] at e
    | true =>
      simp only [hk9] at e
      obtain ⟨rfl, hzf⟩ := hz.k9 (Nat.eq_of_beq_eq_true hk9)
      cases x with
      | none => simp at e
      | some px =>
        cases k with
        | none => simp at e
        | some pk =>
          simp only [] at e
          have hx := hx px rfl
          have hk := hk pk rfl
          unfold lookIn keyKind at e
          cases hj : T.get i.alen with
          | none => simp [hj] at e
          | some ki =>
            simp only [hj] at e
            cases hkk : (Nat.beq ki.kind 6 || Nat.beq ki.kind 7 || Nat.beq ki.kind 4) with
            | false => simp [hkk] at e
            | true =>
              simp only [hkk] at e
              obtain ⟨kinfo, kud, kz, hkz, _⟩ := hT.get hj
              split at e
              · rename_i hself
                obtain ⟨_, hck, _⟩ := keyEq_sound hT hj hkz.und hk hk hself
                cases hes : mapEntries hp px with
                | none => simp [hes] at e
                | some es =>
                  simp only [hes] at e
                  cases hzp : zeroPV T i.elem with
                  | none => simp [hzp] at e
                  | some zp =>
                    simp only [hzp] at e
                    cases hmf : mapFind ki.kind pk es 0 with
                    | none => simp [hmf] at e
                    | some r =>
                      simp only [hmf] at e
                      obtain ⟨zv, hzr, hzv⟩ := zeroPV_sound (w := w) (F := F) (M := M) hT hzp hzf
                      obtain ⟨ms, h1, h2, h3⟩ := entries_sound (P := P) hs hx hes
                      have hck' := hck 9999 ms.isEmpty
                      have fin : ∀ {res : Option (Nat × Value)} {pv : PV} {y : Value} {b : Bool}, (Instr.findKey i.alen u ms.toList).run P w = .ok res w → (res = none → y = zv ∧ b = false) → (∀ j q, res = some (j, q) → y = q ∧ b = true) →
                          VR w F M pv y → ((match ok with | true => some (PV.tup [pv, .v (.bool b)], hp) | false => some (pv, hp)) = some (p, h)) → GoodQ w F M ((Instr.lookup t v u ok).run P w) p hp h := by
                        intro res pv y b hf hn hsm hvr he
                        have hrun : (Instr.lookup t v u ok).run P w = .ok (if ok then .tuple #[y, .bool b] else y) w := by
                          cases res with
                          | none =>
                            obtain ⟨rfl, rfl⟩ := hn rfl
                            rcases h3 with ⟨rfl, rfl⟩ | ⟨r', c', rfl, hgo⟩
                            · simp at hck' hf
                              simp [Instr.lookup, run_underlying hz.und, hck', hf, hzr]
                            · simp [Instr.lookup, run_underlying hz.und, hgo, hck', hf, hzr]
                          | some jq =>
                            obtain ⟨rfl, rfl⟩ := hsm jq.1 jq.2 rfl
                            rcases h3 with ⟨rfl, rfl⟩ | ⟨r', c', rfl, hgo⟩
                            · simp at hck' hf
                              simp [Instr.lookup, run_underlying hz.und, hck', hf]
                            · simp [Instr.lookup, run_underlying hz.und, hgo, hck', hf]
                        cases ok with
                        | true =>
                          cases he
                          refine GoodQ.of hrun (.tup (ys := [y, .bool b]) rfl fun i c z h1 h2 => ?_)
                          match i with
                          | 0 => simp at h1 h2; subst h1; subst h2; exact hvr
                          | 1 => simp at h1 h2; subst h1; subst h2; exact .v rfl
                          | i + 2 => simp at h1
                        | false => cases he; exact GoodQ.of hrun hvr
                      rcases mapFind_sound hT hj hkz.und hk es ms.toList 0 r (by simpa using h1) (fun j k v hjk => by simpa using h2 j k v hjk) hmf with ⟨rfl, k2⟩ | ⟨m, me, mp, rfl, k2, k3, k4, k5⟩
                      · have hf := MapKept.run_findKey (P := P) (w := w) hkz.und k2
                        refine fin hf (fun _ => ⟨rfl, rfl⟩) (fun j q h => by cases h) hzv ?_
                        cases ok <;> simpa [lookRes] using e
                      · have hf := MapKept.run_findKey (P := P) (w := w) hkz.und k4
                        refine fin hf (fun h => by cases h) (fun j q h => by cases h; exact ⟨rfl, rfl⟩) k3 ?_
                        cases ok <;> simpa [lookRes] using e
              · cases e
end
end Go.Ev

/- Operations: maps that are made and changed. -/
namespace Go.Ev
variable [Env]
section
variable {P : Program} {T : Types} {w : World} {F : Fz} {M : Mp} {hp : Hp}

theorem Hp.mget_mput (h : Hp) (i j : Nat) (m : MO) : (h.mput i m).mget j = if j = i then (h.mget i).map fun _ => m else h.mget j := by
  unfold Hp.mput Hp.mget; exact Al.get_set _ _ _ _
theorem Hp.mget_mnew (h : Hp) (m : MO) (i : Nat) : (h.mnew m).mget i = if h.next = i then some m else h.mget i := by
  unfold Hp.mnew Hp.mget; exact Al.get_cons _ _ _ _

/-- a map takes other entries -/
theorem HS.mput (hs : HS hp w F M) {id : Nat} {es es' : List (PV × PV)} {p : Pl} (hg : hp.mget id = some (.map es)) (hm : M id = some p) {ms ms' : Array MapEntry} {c c' : Nat} (hb : w.heap[p.b]? = some (.map ms c))
    (hsz : ms'.size = es'.length) (hr : ∀ (j : Nat) k v, es'[j]? = some (k, v) → ∃ e, ms'[j]? = some e ∧ VR w F M k e.key ∧ VR w F M v e.val) :
    HS (hp.mput id (.map es')) { w with heap := w.heap.setIfInBounds p.b (.map ms' c') } F M ∧ Ext w { w with heap := w.heap.setIfInBounds p.b (.map ms' c') } F F M M := by
  have hlt : p.b < w.heap.size := (Array.getElem?_eq_some_iff.1 hb).1
  have hoth : ∀ b, b ≠ p.b → (w.heap.setIfInBounds p.b (.map ms' c'))[b]? = w.heap[b]? := fun b hne => by
    rw [Array.getElem?_setIfInBounds_ne (Ne.symm hne)]
  have hself : (w.heap.setIfInBounds p.b (.map ms' c'))[p.b]? = some (.map ms' c') := by
    rw [Array.getElem?_setIfInBounds_self, if_pos hlt]
  have hcell : ∀ b o, F b o → ({ w with heap := w.heap.setIfInBounds p.b (.map ms' c') } : World).cell? ⟨b, o, none⟩ = w.cell? ⟨b, o, none⟩ := by
    intro b o _
    by_cases hne : b = p.b
    · subst hne
      simp [World.cell?, hself, hb]
    · exact World.cell?_of_block (a := ⟨b, o, none⟩) (hoth b hne)
  have hx : Ext w { w with heap := w.heap.setIfInBounds p.b (.map ms' c') } F F M M :=
    ⟨rfl, rfl, rfl, by simp, fun k _ hn => hoth k (fun e' => hn id p hm e'.symm), hcell, fun _ _ h => h, fun _ _ h => h, fun _ _ h => .inl h, fun _ _ h => .inl h⟩
  refine ⟨⟨?_, hs.inj, ?_, hs.fresh, ?_, ?_, ?_, ?_⟩, hx⟩
  · intro i b q hgi hmi
    have br := hs.br i b q hgi hmi
    have hne : q.b ≠ p.b := by
      intro e
      obtain ⟨cc, e1, h1, _⟩ := br.blk
      rw [e, hb] at h1; cases h1
    exact br.mono (hoth _ hne) hx.mF hx.cell hx.mM fun _ h => h
  · intro i q hq
    have := hs.lt i q hq
    exact ⟨this.1, by simpa using this.2⟩
  · intro b o hF
    simpa using hs.fw b o hF
  · intro i x q hgi hmi
    have hgi' : (hp.mput id (.map es')).mget i = some x := hgi
    rw [Hp.mget_mput] at hgi'
    by_cases hi : i = id
    · subst hi
      rw [if_pos rfl, hg] at hgi'; cases hgi'
      rw [hm] at hmi; cases hmi
      refine .map hself hsz fun j k v hj => ?_
      obtain ⟨e, g1, g2, g3⟩ := hr j k v hj
      exact ⟨e, g1, g2.ext hx, g3.ext hx⟩
    · rw [if_neg hi] at hgi'
      have hne : q.b ≠ p.b := fun e => hi (hs.ms.inj i id x _ q p hgi' hg hmi hm e)
      exact (hs.ms.mp i x q hgi' hmi).mono (fun _ => hoth _ hne) hx.mF hx.cell hx.mM
  · intro i j x y q q' hi hj hq hq' e
    have hi' : (hp.mput id (.map es')).mget i = some x := hi
    have hj' : (hp.mput id (.map es')).mget j = some y := hj
    have alive : ∀ k z, (hp.mput id (.map es')).mget k = some z → ∃ z', hp.mget k = some z' := by
      intro k z hk
      rw [Hp.mget_mput] at hk
      by_cases e2 : k = id
      · subst e2; exact ⟨_, hg⟩
      · rw [if_neg e2] at hk; exact ⟨_, hk⟩
    obtain ⟨x', hx'⟩ := alive i x hi'
    obtain ⟨y', hy'⟩ := alive j y hj'
    exact hs.ms.inj i j x' y' q q' hx' hy' hq hq' e
  · intro i x hi
    have hi' : (hp.mput id (.map es')).mget i = some x := hi
    rw [Hp.mget_mput] at hi'
    by_cases e2 : i = id
    · subst e2; exact hs.ms.fresh _ _ hg
    · rw [if_neg e2] at hi'; exact hs.ms.fresh _ _ hi'

/-- a map that is made -/
theorem HS.mnew (hs : HS hp w F M) :
    HS (hp.mnew (.map [])) (w.alloc (.map #[] 0)) F (M.up hp.next ⟨w.heap.size, 0, 0, 0, 0, false⟩) ∧ Ext w (w.alloc (.map #[] 0)) F F M (M.up hp.next ⟨w.heap.size, 0, 0, 0, 0, false⟩) := by
  have hx := Ext.alloc w F M (.map #[] 0) hp.next ⟨w.heap.size, 0, 0, 0, 0, false⟩ hs.next_free rfl hs.fw
  have hne : ∀ {id}, id < hp.next → id ≠ hp.next := fun h e => by omega
  refine ⟨⟨?_, ?_, ?_, ?_, ?_, ?_, ?_, ?_⟩, hx⟩
  · intro id b p hg hm
    have hl := hs.fresh id b hg
    rw [Mp.up_ne _ _ (hne hl)] at hm
    exact (hs.br id b p hg hm).mono (RowKit.Below.heap_alloc w _ p.b (hs.lt _ _ hm).2) hx.mF hx.cell hx.mM fun _ h => h
  · intro i j bi bj p q hi hj hp' hq e
    rw [Mp.up_ne _ _ (hne (hs.fresh i bi hi))] at hp'
    rw [Mp.up_ne _ _ (hne (hs.fresh j bj hj))] at hq
    exact hs.inj i j bi bj p q hi hj hp' hq e
  · intro id p hm
    show id < hp.next + 1 ∧ _
    by_cases e' : id = hp.next
    · subst e'; rw [Mp.up_self] at hm; cases hm
      exact ⟨by omega, by rw [alloc_size]; show w.heap.size < _; omega⟩
    · rw [Mp.up_ne _ _ e'] at hm
      have := hs.lt _ _ hm
      exact ⟨by omega, by rw [alloc_size]; omega⟩
  · intro id b hg
    exact Nat.lt_succ_of_lt (hs.fresh id b hg)
  · intro b o hF
    have := hs.fw _ _ hF
    rw [alloc_size]; omega
  · intro i x q hgi hmi
    have hgi' : (hp.mnew (.map [])).mget i = some x := hgi
    rw [Hp.mget_mnew] at hgi'
    by_cases hi : hp.next = i
    · subst hi
      rw [if_pos rfl] at hgi'; cases hgi'
      rw [Mp.up_self] at hmi; cases hmi
      refine .map (ms := #[]) (clock := 0) ?_ rfl fun j k v hj => by simp at hj
      show (w.heap.push _)[w.heap.size]? = _
      simp
    · rw [if_neg hi] at hgi'
      rw [Mp.up_ne _ _ (Ne.symm hi)] at hmi
      exact (hs.ms.mp i x q hgi' hmi).mono (fun h => RowKit.Below.heap_alloc w _ q.b h.lt) hx.mF hx.cell hx.mM
  · intro i j x y q q' hi hj hq hq' e
    have hi' : (hp.mnew (.map [])).mget i = some x := hi
    have hj' : (hp.mnew (.map [])).mget j = some y := hj
    rw [Hp.mget_mnew] at hi' hj'
    by_cases h1 : hp.next = i
    · by_cases h2 : hp.next = j
      · exact h1.symm.trans h2
      · subst h1; rw [Mp.up_self] at hq; cases hq
        rw [Mp.up_ne _ _ (Ne.symm h2)] at hq'
        have := (hs.lt _ _ hq').2
        simp at e; omega
    · rw [Mp.up_ne _ _ (Ne.symm h1)] at hq
      by_cases h2 : hp.next = j
      · subst h2; rw [Mp.up_self] at hq'; cases hq'
        have := (hs.lt _ _ hq).2
        simp at e; omega
      · rw [Mp.up_ne _ _ (Ne.symm h2)] at hq'
        rw [if_neg h1] at hi'; rw [if_neg h2] at hj'
        exact hs.ms.inj i j x y q q' hi' hj' hq hq' e
  · intro i x hi
    have hi' : (hp.mnew (.map [])).mget i = some x := hi
    show i < hp.next + 1
    rw [Hp.mget_mnew] at hi'
    by_cases h1 : hp.next = i
    · omega
    · rw [if_neg h1] at hi'; have := hs.ms.fresh i x hi'; omega

theorem mapSet_length (y : PV × PV) : ∀ (es : List (PV × PV)) (i : Nat), (mapSet es i y).length = es.length
  | [], _ => rfl
  | _ :: _, 0 => rfl
  | _ :: r, i + 1 => by simp [mapSet, mapSet_length y r i]
theorem mapSet_get (y : PV × PV) : ∀ (es : List (PV × PV)) (i j : Nat), (mapSet es i y)[j]? = if j = i then (es[i]?).map fun _ => y else es[j]?
  | [], i, j => by by_cases h : j = i <;> simp [mapSet, h]
  | x :: r, 0, j => by
    cases j with
    | zero => simp [mapSet]
    | succ j => simp [mapSet]
  | x :: r, i + 1, j => by
    cases j with
    | zero => simp [mapSet]
    | succ j => simp [mapSet, mapSet_get y r i j]

theorem upd_sound (hT : TOk P T) (hs : HS hp w F M) {t : TypeId} {x k y : Option PV} {vx vk vy : Value} (hx : ∀ q, x = some q → VR w F M q vx) (hk : ∀ q, k = some q → VR w F M q vk) (hy : ∀ q, y = some q → VR w F M q vy) {p : PV} {h : Hp}
    (e : primUpd T hp t x k y = some (p, h)) : ∃ w', p = .un ∧ (Instr.mapUpdate t vx vk vy).run P w = .ok () w' ∧ HS h w' F M ∧ Ext w w' F F M M := by
  unfold primUpd at e
  cases hi : T.get t with
  | none => simp [hi] at e
  | some i =>
    simp only [hi] at e
    obtain ⟨info, ud, z, hz, _⟩ := hT.get hi
    cases hk9 : Nat.beq i.kind 9 with
    | false => simp [hk9] at e
    | true =>
      simp only [hk9] at e
      obtain ⟨rfl, hzf⟩ := hz.k9 (Nat.eq_of_beq_eq_true hk9)
      split at e
      · rename_i id
        cases k with
        | none => simp at e
        | some pk =>
          cases y with
          | none => simp at e
          | some py =>
            simp only [] at e
            obtain ⟨pl, hm, rfl⟩ := mp_inv (hx _ rfl)
            have hk := hk pk rfl
            have hy := hy py rfl
            unfold updIn keyKind at e
            cases hj : T.get i.alen with
            | none => simp [hj] at e
            | some ki =>
              simp only [hj] at e
              cases hkk : (Nat.beq ki.kind 6 || Nat.beq ki.kind 7 || Nat.beq ki.kind 4) with
              | false => simp [hkk] at e
              | true =>
                simp only [hkk] at e
                obtain ⟨kinfo, kud, kz, hkz, _⟩ := hT.get hj
                split at e
                · rename_i hself
                  obtain ⟨_, hck, _⟩ := keyEq_sound hT hj hkz.und hk hk hself
                  have hck' := hck 9999 false
                  split at e
                  · rename_i es hg
                    cases hs.ms.mp id _ pl hg hm with
                    | map g1 g2 g3 =>
                      rename_i ms clock
                      have hgo := MapKept.run_getObj_map (P := P) g1
                      cases hmf : mapFind ki.kind pk es 0 with
                      | none => simp [hmf] at e
                      | some r =>
                        simp only [hmf] at e
                        rcases mapFind_sound hT hj hkz.und hk es ms.toList 0 r (by simpa using g2) (fun j k v hjk => by simpa using g3 j k v hjk) hmf with ⟨rfl, k2⟩ | ⟨m, me, mp, rfl, k2, k3, k4, k5⟩
                        · cases e
                          have hf := MapKept.run_findKey (P := P) (w := w) hkz.und k2
                          obtain ⟨r1, r2⟩ := hs.mput (es' := es ++ [(pk, py)]) (ms' := ms.push { key := vk, val := vy, born := clock }) (c' := clock + 1) hg hm g1 (by simp [g2]) (by
                            intro j k v hj
                            rw [List.getElem?_append] at hj
                            by_cases hlt : j < es.length
                            · rw [if_pos hlt] at hj
                              obtain ⟨e, q1, q2, q3⟩ := g3 j k v hj
                              exact ⟨e, by rw [Array.getElem?_push_lt (by omega)]; rw [← q1]; simp [g2, hlt], q2, q3⟩
                            · rw [if_neg hlt] at hj
                              have hje : j = es.length := by
                                have := (List.getElem?_eq_some_iff.1 hj).1
                                simp at this; omega
                              subst hje
                              simp at hj
                              obtain ⟨rfl, rfl⟩ := hj
                              exact ⟨{ key := vk, val := vy, born := clock }, by rw [← g2]; simp, hk, hy⟩)
                          exact ⟨_, rfl, by simp [Instr.mapUpdate, run_underlying hz.und, hgo, hck', hf, MapKept.run_setObj_map _ g1], r1, r2⟩
                        · simp only [Nat.zero_add] at e k4
                          cases e
                          have hf := MapKept.run_findKey (P := P) (w := w) hkz.und k4
                          have hks : (Instr.keyThatStays me.key vk).run P w = .ok vk w := by
                            unfold Instr.keyThatStays
                            rw [if_pos (k5 9999)]
                            simp
                          have hml : m < ms.size := by
                            have := (List.getElem?_eq_some_iff.1 k2).1
                            simpa using this
                          have hme : ms[m]? = some me := by simpa using k2
                          obtain ⟨r1, r2⟩ := hs.mput (es' := mapSet es m (pk, py)) (ms' := ms.modify m fun e => { e with key := vk, val := vy }) (c' := clock) hg hm g1 (by simp [mapSet_length, g2]) (by
                            intro j k v hj
                            rw [mapSet_get] at hj
                            by_cases hjm : j = m
                            · subst hjm
                              rw [if_pos rfl] at hj
                              have : (pk, py) = (k, v) := by
                                cases hes : es[j]? with
                                | none => simp [hes] at hj
                                | some q => simpa [hes] using hj
                              cases this
                              exact ⟨{ me with key := vk, val := vy }, by simp [Array.getElem?_modify, hme], hk, hy⟩
                            · rw [if_neg hjm] at hj
                              obtain ⟨e, q1, q2, q3⟩ := g3 j k v hj
                              exact ⟨e, by rw [Array.getElem?_modify, if_neg (Ne.symm hjm)]; exact q1, q2, q3⟩)
                          exact ⟨_, rfl, by simp [Instr.mapUpdate, run_underlying hz.und, hgo, hck', hf, hme, hks, MapKept.run_setObj_map _ g1], r1, r2⟩
                  · cases e
                · cases e
      · cases e

theorem newMap_sound (hT : TOk P T) (hs : HS hp w F M) {t : TypeId} {x : Option Operand} {ρ : Operand → Value} {tm : Tm} (hx : ∀ o q, x = some o → opd o tm = some q → VR w F M q (ρ o)) {p : PV} {h : Hp}
    (e : primMap T hp t (opdO x tm) = some (p, h)) : GoodV w F M ((Instr.makeMap t (x.map ρ)).run P w) p h := by
  have key : ∀ {res : Result Value}, res = .ok (.map (some w.heap.size)) (w.alloc (.map #[] 0)) → newMap hp = some (p, h) → GoodV w F M res p h := by
    intro res hr he
    unfold newMap at he; cases he
    obtain ⟨h1, h2⟩ := hs.mnew
    exact ⟨_, _, _, hr, VR.mp (p := ⟨w.heap.size, 0, 0, 0, 0, false⟩) (Mp.up_self _ _ _), h1, h2⟩
  unfold primMap at e
  split at e
  · cases e
  · rename_i ho
    cases x with
    | none => exact key rfl e
    | some o =>
      simp only [opdO] at ho
      cases hq : opd o tm with
      | none => simp [hq, someO] at ho
      | some q => simp [hq, someO] at ho
  · rename_i k n ho
    cases x with
    | none => simp [opdO] at ho
    | some o =>
      simp only [opdO] at ho
      cases hq : opd o tm with
      | none => simp [hq, someO] at ho
      | some q =>
        simp [hq, someO] at ho
        subst ho
        have hv := hx o _ rfl hq
        cases hi : T.get t with
        | none => simp [hi] at e
        | some i =>
          simp only [hi] at e
          obtain ⟨info, ud, z, hz, _⟩ := hT.get hi
          cases hk9 : Nat.beq i.kind 9 with
          | false => simp [hk9] at e
          | true =>
            simp only [hk9] at e
            obtain ⟨rfl, hzf⟩ := hz.k9 (Nat.eq_of_beq_eq_true hk9)
            refine key ?_ e
            generalize hov : ρ o = v at hv
            cases hv
            simp [Instr.makeMap, hov, run_underlying hz.und, asInt, asIntOf]
  · cases e
end
end Go.Ev

/- Operations: package unsafe's SliceData and String over rows of bytes. -/
namespace Go.Ev
variable [Env]
section
variable {P : Program} {T : Types} {w : World} {F : Fz} {M : Mp} {hp : Hp}

/-- a block is given up; in the world it changes nothing that is looked at -/
theorem HS.lose (hs : HS hp w F M) {id : Nat} {b : Blk} {pl : Pl} (hg : hp.get id = some b) (hm : M id = some pl) {w' : World} (h1 : w'.os = w.os) (h2 : w'.tape = w.tape) (h3 : w'.output = w.output) (h4 : w'.heap.size = w.heap.size)
    (h5 : ∀ k, k ≠ pl.b → w'.heap[k]? = w.heap[k]?) (h6 : ∀ o, w'.cell? ⟨pl.b, o, none⟩ = w.cell? ⟨pl.b, o, none⟩) : HS (hp.kill id) w' F M ∧ Ext w w' F F M M := by
  have hcell : ∀ k o, F k o → w'.cell? ⟨k, o, none⟩ = w.cell? ⟨k, o, none⟩ := by
    intro k o _
    by_cases hk : k = pl.b
    · subst hk; exact h6 o
    · exact World.cell?_of_block (a := ⟨k, o, none⟩) (h5 k hk)
  have hx : Ext w w' F F M M := ⟨h1, h2, h3, by omega, fun k _ hn => h5 k fun e => hn id pl hm e.symm, hcell, fun _ _ h => h, fun _ _ h => h, fun _ _ h => .inl h, fun _ _ h => .inl h⟩
  obtain ⟨c, e, k1, _⟩ := (hs.br id b pl hg hm).blk
  have hk := hs.kill id
  refine ⟨⟨?_, hk.inj, fun i p h => ⟨(hk.lt i p h).1, by rw [h4]; exact (hk.lt i p h).2⟩, hk.fresh, fun k o h => by rw [h4]; exact hk.fw k o h, ?_⟩, hx⟩
  · intro i bi p hgi hmi
    have hgi' := hgi
    rw [Hp.get_kill] at hgi'
    split at hgi'
    · cases hgi'
    · rename_i hne
      have hpb : p.b ≠ pl.b := fun e => hne (hs.inj i id bi b p pl hgi' hg hmi hm e)
      exact (hs.br i bi p hgi' hmi).mono (h5 p.b hpb) (fun _ _ h => h) hcell (fun _ _ h => h) fun _ h => h
  · exact hs.ms.mono (Nat.le_refl _) (fun b' hb => h5 b' fun e' => notMap k1 (e' ▸ hb)) (fun _ _ h => h) hcell (fun _ _ h => h) fun _ _ _ h => h

theorem freeze_other (a : Addr) (n k : Nat) (h : k ≠ a.block) : (w.freeze a n).heap[k]? = w.heap[k]? := by
  unfold World.freeze
  split
  · rfl
  · simp only [Array.getElem?_modify]
    rw [if_neg (fun e => h e.symm)]

theorem freeze_cell {b o n : Nat} {c : Array Value} {e : TypeId} {r : Nat × Nat} (h : w.heap[b]? = some (.cells c e r)) (j : Nat) : (w.freeze ⟨b, o, none⟩ n).cell? ⟨b, j, none⟩ = w.cell? ⟨b, j, none⟩ := by
  unfold World.freeze
  split
  · rfl
  · obtain ⟨lo, hi⟩ := r
    simp [World.cell?, Array.getElem?_modify, h]

/-- n bytes lie side by side anywhere in a row of bytes -/
theorem liesAt_bytesAt {e : TypeId} (hc : P.cellsOf e = 1) (count off n : Nat) (hn : off + n ≤ count) : liesAt P P.depth e count off e n = true := by
  have hd : P.depth = (2 * (P.types.size + Made.depth) + 1) + 1 := rfl
  rw [hd]
  simp only [liesAt, Bool.or_eq_true]
  left
  rw [hd]
  have h1 : off % 1 = 0 := Nat.mod_one off
  simp [rowAt, hc, hn, sameLayout, h1]

theorem run_unsafeString_at (pt it ty e : TypeId) (hp : P.underlying pt = some (.pointer e)) (hc : P.cellsOf e = 1) (g o cells : Nat) (hsh : w.shape? g = some (e, cells)) (l : List UInt8) (h0 : l ≠ []) (hn : o + l.length ≤ cells) (h63 : l.length ≤ 9223372036854775807)
    (hcell : ∀ j x, l[j]? = some x → w.cell? ((⟨g, o, none⟩ : Addr).add j) = some (.int .u8 x.toNat)) :
    (Builtin.unsafeString_ #[pt, it] ty #[.pointer (some ⟨g, o, none⟩), .int .i64 l.length]).run P w = .ok (.string ⟨l.toArray⟩) (w.freeze ⟨g, o, none⟩ l.length) := by
  have hl : l.length ≠ 0 := by simpa using h0
  have hlb := Lib.run_loadBytes (P := P) w l ⟨g, o, none⟩ .empty hcell
  have hlies := liesAt_bytesAt (P := P) hc (cells / P.cellsOf e) o l.length (by rw [hc]; simpa using hn)
  have h63' : ¬ (9223372036854775807 : Int) < (l.length : Int) := by omega
  have hmax : IntKind.i64.max = 9223372036854775807 := rfl
  have hneg : ¬ (l.length : Int) < 0 := by omega
  show (asInt (.int .i64 l.length) >>= _).run P w = _
  simp [asInt, asIntOf, hmax, h63', hneg, hl, variablesAt, hsh, elemOf, run_underlying hp, hlies, hlb]

theorem bytesOf8_length : ∀ {cs : List PV} {l : List UInt8}, bytesOf8 cs = some l → l.length = cs.length
  | [], l, h => by cases h; rfl
  | c :: cs, l, h => by
    unfold bytesOf8 at h
    split at h
    · rename_i heq; cases heq
    · rename_i n r heq
      cases heq
      split at h
      · cases h
      · cases hb : bytesOf8 cs with
        | none => simp [hb] at h
        | some l' =>
          simp only [hb] at h; cases h
          simp [bytesOf8_length hb]
    · cases h
theorem bytesOf8_get : ∀ {cs : List PV} {l : List UInt8}, bytesOf8 cs = some l → ∀ (j : Nat) x, l[j]? = some x → cs[j]? = some (.v (.int .u8 (x.toNat : Int)))
  | [], l, h, j, x, hj => by cases h; simp at hj
  | c :: cs, l, h, j, x, hj => by
    unfold bytesOf8 at h
    split at h
    · rename_i heq; cases heq
    · rename_i n r heq
      cases heq
      split at h
      · cases h
      · rename_i hn
        cases hb : bytesOf8 cs with
        | none => simp [hb] at h
        | some l' =>
          simp only [hb] at h; cases h
          cases j with
          | zero =>
            simp only [List.getElem?_cons_zero, Option.some.injEq] at hj ⊢
            subst hj
            have hn : n + 1 ≤ 256 := Nat.le_of_ble_eq_true hn
            have : (UInt8.ofNat n).toNat = n := by
              rw [UInt8.toNat_ofNat']
              omega
            rw [this]
            rfl
          | succ j =>
            simp only [List.getElem?_cons_succ] at hj ⊢
            exact bytesOf8_get hb j x hj
    · cases h

theorem sliceData_sound {x : Option PV} {v : Value} (hx : ∀ q, x = some q → VR w F M q v) {ts : Array TypeId} {ty : TypeId} {p : PV} {h : Hp} (e : sliceData hp x = some (p, h)) :
    GoodQ w F M ((Builtin.unsafeSliceData_ ts ty #[v]).run P w) p hp h := by
  unfold sliceData at e
  split at e
  · split at e <;> try (cases e; done)
    rename_i hc
    cases e
    cases hx _ rfl with
    | row hm h1 h2 h3 h4 =>
      have := Nat.le_of_ble_eq_true hc
      exact GoodQ.of (Lib.run_unsafeSliceData_row _ ts ty _ _ _ (by omega)) (.ptr hm)
  · cases e
    cases hx _ rfl
    exact GoodQ.of (Lib.run_unsafeSliceData_nil _ ts ty 0 0) (.v rfl)
  · cases e

theorem unsStr_sound (hT : TOk P T) (hs : HS hp w F M) {t it ty : TypeId} {x n : Option PV} {v u : Value} (hx : ∀ q, x = some q → VR w F M q v) (hn : ∀ q, n = some q → VR w F M q u) {p : PV} {h : Hp} (e : unsStr T t hp x n = some (p, h)) :
    GoodV w F M ((Builtin.unsafeString_ #[t, it] ty #[v, u]).run P w) p h := by
  unfold unsStr at e
  split at e <;> try (cases e; done)
  · -- nothing
    split at e <;> try (cases e; done)
    · cases e
      cases hn _ rfl
      cases hx _ rfl
      exact GoodV.of hs (Lib.run_unsafeString_none w t it ty none) (.v rfl)
    · cases e
      cases hn _ rfl
      cases hx _ rfl with
      | ptr hm => exact GoodV.of hs (Lib.run_unsafeString_none w t it ty _) (.v rfl)
  · rename_i m
    split at e <;> try (cases e; done)
    rename_i id off
    cases hg : hp.get id with
    | none => simp [hg] at e
    | some b =>
      simp only [hg] at e
      cases hti : T.get t with
      | none => simp [hti] at e
      | some ti =>
        simp only [hti] at e
        cases hbi : T.get b.ty with
        | none => simp [hbi] at e
        | some bi =>
          simp only [hbi] at e
          split at e <;> try (cases e; done)
          rename_i hc
          simp only [Bool.and_eq_true] at hc
          obtain ⟨⟨⟨c1, c2⟩, c3⟩, c4⟩ := hc
          obtain ⟨tinfo, tu, tz, htz, _⟩ := hT.get hti
          obtain ⟨binfo, bu, bz, hbz, _⟩ := hT.get hbi
          obtain rfl := htz.k8 (Nat.eq_of_beq_eq_true c1)
          have c2 := Nat.eq_of_beq_eq_true c2
          have c3 := Nat.eq_of_beq_eq_true c3
          have c4 := Nat.le_of_ble_eq_true c4
          cases hcu : cut b.cells off (m + 1) with
          | none => simp [hcu] at e
          | some cs =>
            simp only [hcu] at e
            cases hl : bytesOf8 cs with
            | none => simp [hl] at e
            | some l =>
              simp only [hl] at e
              cases e
              cases hn _ rfl
              cases hx _ rfl with
              | ptr hm =>
                rename_i pl
                have br := hs.br id b pl hg hm
                obtain ⟨c, h1⟩ := br.ty.2
                obtain ⟨c', e', k1, k2, k3, k4⟩ := br.blk
                rw [h1] at k1; cases k1
                obtain ⟨q1, q2⟩ := cut_spec hcu
                have hlen : l.length = m + 1 := by
                  rw [bytesOf8_length hl, q1, List.length_take, List.length_drop]; omega
                have hsh : w.shape? pl.b = some (b.ty, c.size) := by simp [World.shape?, h1]
                have hcells : P.cellsOf b.ty = 1 := by simp [Program.cellsOf, hbz.hinfo, ← hbz.size, c3]
                have hrun := run_unsafeString_at (P := P) (w := w) t it ty b.ty (by rw [htz.und, c2]) hcells pl.b (pl.sh + off) c.size hsh l (by intro e; rw [e] at hlen; simp at hlen) (by have := br.n; omega) (by omega) (by
                  intro j x hj
                  have hjl : j < m + 1 := by rw [← hlen]; exact (List.getElem?_eq_some_iff.1 hj).1
                  have hcj : cs[j]? = some (.v (.int .u8 (x.toNat : Int))) := bytesOf8_get hl j x hj
                  have hbj : b.cells[off + j]? = some (.v (.int .u8 (x.toNat : Int))) := by
                    rw [q1, List.getElem?_take, if_pos hjl, List.getElem?_drop] at hcj
                    exact hcj
                  obtain ⟨_, y, y1, y2⟩ := k4 (off + j) _ hbj
                  cases y2
                  have hadd : ((⟨pl.b, pl.sh + off, none⟩ : Addr).add j) = ⟨pl.b, pl.sh + off + j, none⟩ := by
                    unfold Addr.add
                    by_cases hj0 : j = 0
                    · subst hj0; simp
                    · simp [hj0]
                  rw [hadd]
                  simp only [World.cell?, h1]
                  rw [show pl.sh + off + j = pl.sh + (off + j) by omega]
                  simpa using y1)
                rw [hlen] at hrun
                obtain ⟨g1, g2⟩ := hs.lose hg hm (w' := w.freeze ⟨pl.b, pl.sh + off, none⟩ (m + 1)) (by unfold World.freeze; split <;> rfl) (by unfold World.freeze; split <;> rfl) (by unfold World.freeze; split <;> rfl) (by unfold World.freeze; split <;> simp)
                  (fun k hk => freeze_other _ _ k hk) (fun o => freeze_cell h1 o)
                exact ⟨_, M, _, hrun, .v rfl, g1, g2⟩
end
end Go.Ev
