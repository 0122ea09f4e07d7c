/- Keys: the two programs' questions whether a key is valid have one answer. -/
import Derived.Test.YtaceidhlamlmhaaGreatEvVal
set_option linter.all false
namespace Go.Ev
open Go.Proofs
theorem beq_d (a b : Nat) : Nat.beq a b = decide (a = b) := by
  rw [Bool.eq_iff_iff, decide_eq_true_eq]
  exact ⟨Nat.eq_of_beq_eq_true, fun h => by subst h; exact Nat.beq_refl _⟩
theorem blt_d (a b : Nat) : Nat.blt a b = decide (a < b) := by
  rw [Bool.eq_iff_iff, decide_eq_true_eq]; simp [Nat.blt, Nat.succ_le_iff]
theorem ble_d (a b : Nat) : Nat.ble a b = decide (a ≤ b) := by
  rw [Bool.eq_iff_iff, decide_eq_true_eq]; simp
theorem bff : (false == false) = true := rfl
theorem bft : (false == true) = false := rfl
theorem btf : (true == false) = false := rfl
theorem btt : (true == true) = true := rfl
def lowB (n : Int) : Bool := decide (97 ≤ n) && decide (n ≤ 122)
def digB (n : Int) : Bool := decide (48 ≤ n) && decide (n ≤ 57)
def wordB (n : Int) : Bool := lowB n || digB n || n == 95
noncomputable def v31 : FI := ⟨Tryz.f31, false, .lf, .lf⟩
noncomputable def v33 : FI := ⟨Tryz.f33, false, .lf, .lf⟩
noncomputable def v46 : FI := ⟨Tryz.f46, false, .lf, .lf⟩
noncomputable def v48 : FI := ⟨Tryz.f48, false, .lf, .lf⟩
noncomputable def v61 : FI := ⟨Tryz.f61, false, .lf, .lf⟩
noncomputable def v62 : FI := ⟨Tryz.f62, false, .lf, .lf⟩
noncomputable def v63 : FI := ⟨Tryz.f63, false, .lf, .lf⟩
noncomputable def v64 : FI := ⟨Tryz.f64, false, .lf, .lf⟩
noncomputable def v65 : FI := ⟨Tryz.f65, false, .lf, .lf⟩
noncomputable def v66 : FI := ⟨Tryz.f66, false, .lf, .lf⟩
variable [Env]
theorem run62 (FT : Fns) (O : Orc) (N : Nat) (n : Int) (hp : Hp) (K : Nx PV) : bodyF tys v62 (run tys FT O (N + 1)) [.v (.int .u8 n)] hp K = K (.v (.bool (lowB n))) hp := by
  unfold lowB
  by_cases h1 : 97 ≤ n <;> by_cases h2 : n ≤ 122 <;>
  simp only [h1, h2, v62, Tryz.f62, bodyF, run, evC, evOps, evStep, dstOk, wantedP, prim, primBuiltin, enters, entersOf, evDo, opd, opds, consO, flat, putT, primBin, bin, intOp, intBin, ileb_eq, ieqb_eq, primUn, una, ret1, Al.get, wantOf, dstAt, primPick, kept, seqK, blockK, endK, resOf, resVars, resVar, initT, Tr.get, beq_d, blt_d, ble_d, bff, bft, btf, btt, List.length_cons, List.length_nil, Nat.reduceAdd, Nat.reduceLeDiff, Nat.reduceLT, decide_true, decide_false, Bool.and_true, Bool.and_false, Nat.reduceEqDiff, Bool.false_and, Bool.true_and, Bool.or_true, Bool.or_false, Bool.true_or, Bool.false_or, List.toList_toArray, reduceCtorEq, List.getElem?_cons_succ, List.getElem?_cons_zero, Option.some.injEq, Bool.not_true, Bool.not_false, List.append_nil, List.nil_append, List.cons_append]
theorem run65 (FT : Fns) (O : Orc) (N : Nat) (n : Int) (hp : Hp) (K : Nx PV) : bodyF tys v65 (run tys FT O (N + 1)) [.v (.int .u8 n)] hp K = K (.v (.bool (lowB n))) hp := by
  unfold lowB
  by_cases h1 : 97 ≤ n <;> by_cases h2 : n ≤ 122 <;>
  simp only [h1, h2, v65, Tryz.f65, bodyF, run, evC, evOps, evStep, dstOk, wantedP, prim, primBuiltin, enters, entersOf, evDo, opd, opds, consO, flat, putT, primBin, bin, intOp, intBin, ileb_eq, ieqb_eq, primUn, una, ret1, Al.get, wantOf, dstAt, primPick, kept, seqK, blockK, endK, resOf, resVars, resVar, initT, Tr.get, beq_d, blt_d, ble_d, bff, bft, btf, btt, List.length_cons, List.length_nil, Nat.reduceAdd, Nat.reduceLeDiff, Nat.reduceLT, decide_true, decide_false, Bool.and_true, Bool.and_false, Nat.reduceEqDiff, Bool.false_and, Bool.true_and, Bool.or_true, Bool.or_false, Bool.true_or, Bool.false_or, List.toList_toArray, reduceCtorEq, List.getElem?_cons_succ, List.getElem?_cons_zero, Option.some.injEq, Bool.not_true, Bool.not_false, List.append_nil, List.nil_append, List.cons_append]
theorem run64 (FT : Fns) (O : Orc) (N : Nat) (n : Int) (hp : Hp) (K : Nx PV) : bodyF tys v64 (run tys FT O (N + 1)) [.v (.int .u8 n)] hp K = K (.v (.bool (digB n))) hp := by
  unfold digB
  by_cases h1 : 48 ≤ n <;> by_cases h2 : n ≤ 57 <;>
  simp only [h1, h2, v64, Tryz.f64, bodyF, run, evC, evOps, evStep, dstOk, wantedP, prim, primBuiltin, enters, entersOf, evDo, opd, opds, consO, flat, putT, primBin, bin, intOp, intBin, ileb_eq, ieqb_eq, primUn, una, ret1, Al.get, wantOf, dstAt, primPick, kept, seqK, blockK, endK, resOf, resVars, resVar, initT, Tr.get, beq_d, blt_d, ble_d, bff, bft, btf, btt, List.length_cons, List.length_nil, Nat.reduceAdd, Nat.reduceLeDiff, Nat.reduceLT, decide_true, decide_false, Bool.and_true, Bool.and_false, Nat.reduceEqDiff, Bool.false_and, Bool.true_and, Bool.or_true, Bool.or_false, Bool.true_or, Bool.false_or, List.toList_toArray, reduceCtorEq, List.getElem?_cons_succ, List.getElem?_cons_zero, Option.some.injEq, Bool.not_true, Bool.not_false, List.append_nil, List.nil_append, List.cons_append]
theorem run66 (FT : Fns) (O : Orc) (N : Nat) (n : Int) (hp : Hp) (K : Nx PV) : bodyF tys v66 (run tys FT O (N + 1)) [.v (.int .u8 n)] hp K = K (.v (.bool (digB n))) hp := by
  unfold digB
  by_cases h1 : 48 ≤ n <;> by_cases h2 : n ≤ 57 <;>
  simp only [h1, h2, v66, Tryz.f66, bodyF, run, evC, evOps, evStep, dstOk, wantedP, prim, primBuiltin, enters, entersOf, evDo, opd, opds, consO, flat, putT, primBin, bin, intOp, intBin, ileb_eq, ieqb_eq, primUn, una, ret1, Al.get, wantOf, dstAt, primPick, kept, seqK, blockK, endK, resOf, resVars, resVar, initT, Tr.get, beq_d, blt_d, ble_d, bff, bft, btf, btt, List.length_cons, List.length_nil, Nat.reduceAdd, Nat.reduceLeDiff, Nat.reduceLT, decide_true, decide_false, Bool.and_true, Bool.and_false, Nat.reduceEqDiff, Bool.false_and, Bool.true_and, Bool.or_true, Bool.or_false, Bool.true_or, Bool.false_or, List.toList_toArray, reduceCtorEq, List.getElem?_cons_succ, List.getElem?_cons_zero, Option.some.injEq, Bool.not_true, Bool.not_false, List.append_nil, List.nil_append, List.cons_append]
/-- a body's run, folded -/
noncomputable def bodyG (fi : FI) (rc : RC PV) : List PV → Hp → Nx PV → Option PV := bodyF tys fi rc
/-- one step of fuel -/
theorem run_step (fi : FI) (FT : Fns) (O : Orc) (N : Nat) : bodyG fi (run tys FT O (N + 1)) = bodyF tys fi (fun fi c => evC tys fi c (callF tys FT O (run tys FT O N)) (run tys FT O N)) := rfl
/-- calls of entries that share the heap -/
theorem callF_of {FT : Fns} {O : Orc} {rc : RC PV} {f : Nat} {fi : FI} (h : FT.get f = some fi) (hd : fi.data = false) : callF tys FT O rc f = bodyG fi rc := by
  unfold callF bodyG
  rw [h]
  simp only [hd]
theorem callF_ask {FT : Fns} {O : Orc} {rc : RC PV} {f : Nat} (h : FT.get f = none) {l : List PV} {hp : Hp} {k : Nx PV} : callF tys FT O rc f l hp k = callO O f k (freezeL deepN hp l) := by
  unfold callF
  rw [h]
theorem runG62 (FT : Fns) (O : Orc) (N : Nat) (n : Int) (hp : Hp) (K : Nx PV) : bodyG v62 (run tys FT O (N + 1)) [.v (.int .u8 n)] hp K = K (.v (.bool (lowB n))) hp := run62 FT O N n hp K
theorem runG64 (FT : Fns) (O : Orc) (N : Nat) (n : Int) (hp : Hp) (K : Nx PV) : bodyG v64 (run tys FT O (N + 1)) [.v (.int .u8 n)] hp K = K (.v (.bool (digB n))) hp := run64 FT O N n hp K
theorem runG65 (FT : Fns) (O : Orc) (N : Nat) (n : Int) (hp : Hp) (K : Nx PV) : bodyG v65 (run tys FT O (N + 1)) [.v (.int .u8 n)] hp K = K (.v (.bool (lowB n))) hp := run65 FT O N n hp K
theorem runG66 (FT : Fns) (O : Orc) (N : Nat) (n : Int) (hp : Hp) (K : Nx PV) : bodyG v66 (run tys FT O (N + 1)) [.v (.int .u8 n)] hp K = K (.v (.bool (digB n))) hp := run66 FT O N n hp K
theorem runG63 {FT : Fns} (h62 : FT.get 62 = some v62) (h64 : FT.get 64 = some v64) (O : Orc) (N : Nat) (n : Int) (hp : Hp) (K : Nx PV) : bodyG v63 (run tys FT O (N + 2)) [.v (.int .u8 n)] hp K = K (.v (.bool (wordB n))) hp := by
  have c62 : callF tys FT O (run tys FT O (N + 1)) 62 = bodyG v62 (run tys FT O (N + 1)) := callF_of h62 rfl
  have c64 : callF tys FT O (run tys FT O (N + 1)) 64 = bodyG v64 (run tys FT O (N + 1)) := callF_of h64 rfl
  unfold wordB
  rw [run_step]
  cases h1 : lowB n <;> cases h2 : digB n <;> cases h3 : n == 95 <;>
  simp only [h3, h1, h2, c62, c64, runG62, runG64, v63, Tryz.f63, ↓bodyF, ↓evC, ↓evOps, ↓evStep, ↓dstOk, ↓wantedP, ↓prim, ↓primBuiltin, ↓enters, ↓entersOf, ↓evDo, ↓opd, ↓opds, consO, flat, ↓putT, ↓primBin, bin, intOp, intBin, ileb_eq, ieqb_eq, ↓primUn, una, ↓ret1, Al.get, ↓wantOf, dstAt, ↓primPick, ↓kept, ↓seqK, ↓blockK, ↓endK, resOf, resVars, resVar, initT, Tr.get, beq_d, blt_d, ble_d, bff, bft, btf, btt, List.length_cons, List.length_nil, Nat.reduceAdd, Nat.reduceLeDiff, Nat.reduceLT, decide_true, decide_false, Bool.and_true, Bool.and_false, Nat.reduceEqDiff, Bool.false_and, Bool.true_and, Bool.or_true, Bool.or_false, Bool.true_or, Bool.false_or, List.toList_toArray, reduceCtorEq, List.getElem?_cons_succ, List.getElem?_cons_zero, Option.some.injEq, Bool.not_true, Bool.not_false, List.append_nil, List.nil_append, List.cons_append]
def hdC : Code → Code
  | .seq a _ => a
  | c => c
def tlC : Code → Code
  | .seq _ b => b
  | c => c
def inC : Code → Code
  | .block _ c => c
  | .loop c => c
  | c => c
noncomputable def b48 : Code := match Tryz.f48.body with
  | some c => c
  | none => .skip
/-- the loop's body -/
noncomputable def l48 : Code := inC (inC (tlC (hdC (tlC (tlC b48)))))
theorem ty9 : tys.get 9 = some y9 := by kernel_rfl
theorem ty9k : y9.kind = 4 := rfl
theorem bft' : (true = false) = False := by simp
theorem wrap_succ (k : Nat) (h : k < 4611686018427387904) : wrapq .i64 (Int.ofNat k + 1) = Int.ofNat (k + 1) := by
  rw [wrapq_eq]
  simp only [IntKind.wrap, IntKind.bits, IntKind.signed, Int.ofNat_eq_natCast]
  first | omega | (simp; omega) | (split <;> omega)
set_option maxHeartbeats 2000000 in
theorem go48a (call : CallK PV) (rc : RC PV) (c65 : ∀ n hp K, call 65 [.v (.int .u8 n)] hp K = K (.v (.bool (lowB n))) hp) (c66 : ∀ n hp K, call 66 [.v (.int .u8 n)] hp K = K (.v (.bool (digB n))) hp) (s : ByteArray) (k : Nat) (c : UInt8) (hc : s.data.toList[k]? = some c) (hk : k < 1000) (tm : Tm) (hp : Hp)
    (h0 : Al.get tm 0 = some (.v (.string s))) (h3 : Al.get tm 3 = some (.v (.int .i64 (.ofNat k)))) (e1 : lowB c.toNat = true) :
    ∃ tm', (∀ K : Ex → St → Option PV, evC tys v48 l48 call rc ⟨tm, hp⟩ K = K .normal ⟨tm', hp⟩) ∧ Al.get tm' 0 = some (.v (.string s)) ∧ Al.get tm' 3 = some (.v (.int .i64 (.ofNat (k + 1)))) := by
  have hlen := (List.getElem?_eq_some_iff.1 hc).1
  have hl : ¬ ((s.data.toList.length : Int) ≤ Int.ofNat k) := by simp only [Int.ofNat_eq_natCast]; omega
  have hw := wrap_succ k (by omega)
  apply Exists.intro
  refine And.intro (fun K => ?_) ?_
  · simp only [c65, c66, h0, h3, e1, hc, hl, hw, l48, b48, hdC, tlC, inC, v48, Tryz.f48, ↓bodyF, ↓evC, ↓evOps, ↓evStep, ↓dstOk, ↓wantedP, ↓prim, ↓primBuiltin, ↓enters, ↓entersOf, ↓evDo, ↓opd, ↓opds, consO, flat, ↓putT, ↓primBin, bin, intOp, intBin, ileb_eq, ieqb_eq, ↓primUn, una, ↓ret1, Al.get, ↓wantOf, dstAt, ↓primPick, ↓kept, ↓seqK, ↓blockK, ↓endK, resOf, resVars, resVar, initT, Tr.get, beq_d, blt_d, ble_d, bff, bft, btf, btt, List.length_cons, List.length_nil, Nat.reduceAdd, Nat.reduceLeDiff, Nat.reduceLT, decide_true, decide_false, Bool.and_true, Bool.and_false, Nat.reduceEqDiff, Bool.false_and, Bool.true_and, Bool.or_true, Bool.or_false, Bool.true_or, Bool.false_or, List.toList_toArray, reduceCtorEq, List.getElem?_cons_succ, List.getElem?_cons_zero, Option.some.injEq, Bool.not_true, Bool.not_false, List.append_nil, List.nil_append, List.cons_append, primIndex, idxVal, byteOf, primLen, ty9, ty9k, bft', Nat.add_zero, Bool.not_not]
    exact rfl
  · simp only [h0, h3, Al.get, beq_d, Nat.reduceEqDiff, decide_true, decide_false, and_self]
set_option maxHeartbeats 2000000 in
theorem go48b (call : CallK PV) (rc : RC PV) (c65 : ∀ n hp K, call 65 [.v (.int .u8 n)] hp K = K (.v (.bool (lowB n))) hp) (c66 : ∀ n hp K, call 66 [.v (.int .u8 n)] hp K = K (.v (.bool (digB n))) hp) (s : ByteArray) (k : Nat) (c : UInt8) (hc : s.data.toList[k]? = some c) (hk : k < 1000) (tm : Tm) (hp : Hp)
    (h0 : Al.get tm 0 = some (.v (.string s))) (h3 : Al.get tm 3 = some (.v (.int .i64 (.ofNat k)))) (e1 : lowB c.toNat = false) (e2 : digB c.toNat = true) :
    ∃ tm', (∀ K : Ex → St → Option PV, evC tys v48 l48 call rc ⟨tm, hp⟩ K = K .normal ⟨tm', hp⟩) ∧ Al.get tm' 0 = some (.v (.string s)) ∧ Al.get tm' 3 = some (.v (.int .i64 (.ofNat (k + 1)))) := by
  have hlen := (List.getElem?_eq_some_iff.1 hc).1
  have hl : ¬ ((s.data.toList.length : Int) ≤ Int.ofNat k) := by simp only [Int.ofNat_eq_natCast]; omega
  have hw := wrap_succ k (by omega)
  apply Exists.intro
  refine And.intro (fun K => ?_) ?_
  · simp only [c65, c66, h0, h3, e1, e2, hc, hl, hw, l48, b48, hdC, tlC, inC, v48, Tryz.f48, ↓bodyF, ↓evC, ↓evOps, ↓evStep, ↓dstOk, ↓wantedP, ↓prim, ↓primBuiltin, ↓enters, ↓entersOf, ↓evDo, ↓opd, ↓opds, consO, flat, ↓putT, ↓primBin, bin, intOp, intBin, ileb_eq, ieqb_eq, ↓primUn, una, ↓ret1, Al.get, ↓wantOf, dstAt, ↓primPick, ↓kept, ↓seqK, ↓blockK, ↓endK, resOf, resVars, resVar, initT, Tr.get, beq_d, blt_d, ble_d, bff, bft, btf, btt, List.length_cons, List.length_nil, Nat.reduceAdd, Nat.reduceLeDiff, Nat.reduceLT, decide_true, decide_false, Bool.and_true, Bool.and_false, Nat.reduceEqDiff, Bool.false_and, Bool.true_and, Bool.or_true, Bool.or_false, Bool.true_or, Bool.false_or, List.toList_toArray, reduceCtorEq, List.getElem?_cons_succ, List.getElem?_cons_zero, Option.some.injEq, Bool.not_true, Bool.not_false, List.append_nil, List.nil_append, List.cons_append, primIndex, idxVal, byteOf, primLen, ty9, ty9k, bft', Nat.add_zero, Bool.not_not]
    exact rfl
  · simp only [h0, h3, Al.get, beq_d, Nat.reduceEqDiff, decide_true, decide_false, and_self]
set_option maxHeartbeats 2000000 in
theorem go48c (call : CallK PV) (rc : RC PV) (c65 : ∀ n hp K, call 65 [.v (.int .u8 n)] hp K = K (.v (.bool (lowB n))) hp) (c66 : ∀ n hp K, call 66 [.v (.int .u8 n)] hp K = K (.v (.bool (digB n))) hp) (s : ByteArray) (k : Nat) (c : UInt8) (hc : s.data.toList[k]? = some c) (hk : k < 1000) (tm : Tm) (hp : Hp)
    (h0 : Al.get tm 0 = some (.v (.string s))) (h3 : Al.get tm 3 = some (.v (.int .i64 (.ofNat k)))) (e1 : lowB c.toNat = false) (e2 : digB c.toNat = false) (e3 : ((c.toNat : Int) == 95) = true) :
    ∃ tm', (∀ K : Ex → St → Option PV, evC tys v48 l48 call rc ⟨tm, hp⟩ K = K .normal ⟨tm', hp⟩) ∧ Al.get tm' 0 = some (.v (.string s)) ∧ Al.get tm' 3 = some (.v (.int .i64 (.ofNat (k + 1)))) := by
  have hlen := (List.getElem?_eq_some_iff.1 hc).1
  have hl : ¬ ((s.data.toList.length : Int) ≤ Int.ofNat k) := by simp only [Int.ofNat_eq_natCast]; omega
  have hw := wrap_succ k (by omega)
  apply Exists.intro
  refine And.intro (fun K => ?_) ?_
  · simp only [c65, c66, h0, h3, e1, e2, e3, hc, hl, hw, l48, b48, hdC, tlC, inC, v48, Tryz.f48, ↓bodyF, ↓evC, ↓evOps, ↓evStep, ↓dstOk, ↓wantedP, ↓prim, ↓primBuiltin, ↓enters, ↓entersOf, ↓evDo, ↓opd, ↓opds, consO, flat, ↓putT, ↓primBin, bin, intOp, intBin, ileb_eq, ieqb_eq, ↓primUn, una, ↓ret1, Al.get, ↓wantOf, dstAt, ↓primPick, ↓kept, ↓seqK, ↓blockK, ↓endK, resOf, resVars, resVar, initT, Tr.get, beq_d, blt_d, ble_d, bff, bft, btf, btt, List.length_cons, List.length_nil, Nat.reduceAdd, Nat.reduceLeDiff, Nat.reduceLT, decide_true, decide_false, Bool.and_true, Bool.and_false, Nat.reduceEqDiff, Bool.false_and, Bool.true_and, Bool.or_true, Bool.or_false, Bool.true_or, Bool.false_or, List.toList_toArray, reduceCtorEq, List.getElem?_cons_succ, List.getElem?_cons_zero, Option.some.injEq, Bool.not_true, Bool.not_false, List.append_nil, List.nil_append, List.cons_append, primIndex, idxVal, byteOf, primLen, ty9, ty9k, bft', Nat.add_zero, Bool.not_not]
    exact rfl
  · simp only [h0, h3, Al.get, beq_d, Nat.reduceEqDiff, decide_true, decide_false, and_self]
set_option maxHeartbeats 2000000 in
theorem no48 (call : CallK PV) (rc : RC PV) (c65 : ∀ n hp K, call 65 [.v (.int .u8 n)] hp K = K (.v (.bool (lowB n))) hp) (c66 : ∀ n hp K, call 66 [.v (.int .u8 n)] hp K = K (.v (.bool (digB n))) hp) (s : ByteArray) (k : Nat) (c : UInt8) (hc : s.data.toList[k]? = some c) (hk : k < 1000) (tm : Tm) (hp : Hp)
    (h0 : Al.get tm 0 = some (.v (.string s))) (h3 : Al.get tm 3 = some (.v (.int .i64 (.ofNat k)))) (e1 : lowB c.toNat = false) (e2 : digB c.toNat = false) (e3 : ((c.toNat : Int) == 95) = false) :
    ∃ tm', (∀ K : Ex → St → Option PV, evC tys v48 l48 call rc ⟨tm, hp⟩ K = K .ret ⟨tm', hp⟩) ∧ Al.get tm' 2 = some (.v (.bool false)) := by
  have hlen := (List.getElem?_eq_some_iff.1 hc).1
  have hl : ¬ ((s.data.toList.length : Int) ≤ Int.ofNat k) := by simp only [Int.ofNat_eq_natCast]; omega
  have hw := wrap_succ k (by omega)
  apply Exists.intro
  refine And.intro (fun K => ?_) ?_
  · simp only [c65, c66, h0, h3, e1, e2, e3, hc, hl, hw, l48, b48, hdC, tlC, inC, v48, Tryz.f48, ↓bodyF, ↓evC, ↓evOps, ↓evStep, ↓dstOk, ↓wantedP, ↓prim, ↓primBuiltin, ↓enters, ↓entersOf, ↓evDo, ↓opd, ↓opds, consO, flat, ↓putT, ↓primBin, bin, intOp, intBin, ileb_eq, ieqb_eq, ↓primUn, una, ↓ret1, Al.get, ↓wantOf, dstAt, ↓primPick, ↓kept, ↓seqK, ↓blockK, ↓endK, resOf, resVars, resVar, initT, Tr.get, beq_d, blt_d, ble_d, bff, bft, btf, btt, List.length_cons, List.length_nil, Nat.reduceAdd, Nat.reduceLeDiff, Nat.reduceLT, decide_true, decide_false, Bool.and_true, Bool.and_false, Nat.reduceEqDiff, Bool.false_and, Bool.true_and, Bool.or_true, Bool.or_false, Bool.true_or, Bool.false_or, List.toList_toArray, reduceCtorEq, List.getElem?_cons_succ, List.getElem?_cons_zero, Option.some.injEq, Bool.not_true, Bool.not_false, List.append_nil, List.nil_append, List.cons_append, primIndex, idxVal, byteOf, primLen, ty9, ty9k, bft', Nat.add_zero, Bool.not_not]
    exact rfl
  · simp only [h0, h3, Al.get, beq_d, Nat.reduceEqDiff, decide_true, decide_false, and_self]
noncomputable def b61 : Code := match Tryz.f61.body with
  | some c => c
  | none => .skip
noncomputable def l61 : Code := inC (inC (tlC (hdC (tlC (tlC b61)))))
set_option maxHeartbeats 2000000 in
theorem go61 (call : CallK PV) (rc : RC PV) (c63 : ∀ n hp K, call 63 [.v (.int .u8 n)] hp K = K (.v (.bool (wordB n))) hp) (s : ByteArray) (k : Nat) (c : UInt8) (hc : s.data.toList[k]? = some c) (hk : k < 1000) (tm : Tm) (hp : Hp)
    (h0 : Al.get tm 0 = some (.v (.string s))) (h2 : Al.get tm 2 = some (.clo 63 [])) (h3 : Al.get tm 7 = some (.v (.int .i64 (.ofNat k)))) (e1 : wordB c.toNat = true) :
    ∃ tm', (∀ K : Ex → St → Option PV, evC tys v61 l61 call rc ⟨tm, hp⟩ K = K .normal ⟨tm', hp⟩) ∧ Al.get tm' 0 = some (.v (.string s)) ∧ Al.get tm' 2 = some (.clo 63 []) ∧ Al.get tm' 7 = some (.v (.int .i64 (.ofNat (k + 1)))) := by
  have hlen := (List.getElem?_eq_some_iff.1 hc).1
  have hl : ¬ ((s.data.toList.length : Int) ≤ Int.ofNat k) := by simp only [Int.ofNat_eq_natCast]; omega
  have hw := wrap_succ k (by omega)
  apply Exists.intro
  refine And.intro (fun K => ?_) ?_
  · simp only [c63, h0, h2, h3, e1, hc, hl, hw, l61, b61, hdC, tlC, inC, v61, Tryz.f61, ↓bodyF, ↓evC, ↓evOps, ↓evStep, ↓dstOk, ↓wantedP, ↓prim, ↓primBuiltin, ↓enters, ↓entersOf, ↓evDo, ↓opd, ↓opds, consO, flat, ↓putT, ↓primBin, bin, intOp, intBin, ileb_eq, ieqb_eq, ↓primUn, una, ↓ret1, Al.get, ↓wantOf, dstAt, ↓primPick, ↓kept, ↓seqK, ↓blockK, ↓endK, resOf, resVars, resVar, initT, Tr.get, beq_d, blt_d, ble_d, bff, bft, btf, btt, List.length_cons, List.length_nil, Nat.reduceAdd, Nat.reduceLeDiff, Nat.reduceLT, decide_true, decide_false, Bool.and_true, Bool.and_false, Nat.reduceEqDiff, Bool.false_and, Bool.true_and, Bool.or_true, Bool.or_false, Bool.true_or, Bool.false_or, List.toList_toArray, reduceCtorEq, List.getElem?_cons_succ, List.getElem?_cons_zero, Option.some.injEq, Bool.not_true, Bool.not_false, List.append_nil, List.nil_append, List.cons_append, primIndex, idxVal, byteOf, primLen, ty9, ty9k, bft', Nat.add_zero, Bool.not_not]
    exact rfl
  · simp only [h0, h2, h3, Al.get, beq_d, Nat.reduceEqDiff, decide_true, decide_false, and_self]
set_option maxHeartbeats 2000000 in
theorem no61 (call : CallK PV) (rc : RC PV) (c63 : ∀ n hp K, call 63 [.v (.int .u8 n)] hp K = K (.v (.bool (wordB n))) hp) (s : ByteArray) (k : Nat) (c : UInt8) (hc : s.data.toList[k]? = some c) (hk : k < 1000) (tm : Tm) (hp : Hp)
    (h0 : Al.get tm 0 = some (.v (.string s))) (h2 : Al.get tm 2 = some (.clo 63 [])) (h3 : Al.get tm 7 = some (.v (.int .i64 (.ofNat k)))) (e1 : wordB c.toNat = false) :
    ∃ tm', (∀ K : Ex → St → Option PV, evC tys v61 l61 call rc ⟨tm, hp⟩ K = K .ret ⟨tm', hp⟩) ∧ Al.get tm' 6 = some (.v (.bool false)) := by
  have hlen := (List.getElem?_eq_some_iff.1 hc).1
  have hl : ¬ ((s.data.toList.length : Int) ≤ Int.ofNat k) := by simp only [Int.ofNat_eq_natCast]; omega
  have hw := wrap_succ k (by omega)
  apply Exists.intro
  refine And.intro (fun K => ?_) ?_
  · simp only [c63, h0, h2, h3, e1, hc, hl, hw, l61, b61, hdC, tlC, inC, v61, Tryz.f61, ↓bodyF, ↓evC, ↓evOps, ↓evStep, ↓dstOk, ↓wantedP, ↓prim, ↓primBuiltin, ↓enters, ↓entersOf, ↓evDo, ↓opd, ↓opds, consO, flat, ↓putT, ↓primBin, bin, intOp, intBin, ileb_eq, ieqb_eq, ↓primUn, una, ↓ret1, Al.get, ↓wantOf, dstAt, ↓primPick, ↓kept, ↓seqK, ↓blockK, ↓endK, resOf, resVars, resVar, initT, Tr.get, beq_d, blt_d, ble_d, bff, bft, btf, btt, List.length_cons, List.length_nil, Nat.reduceAdd, Nat.reduceLeDiff, Nat.reduceLT, decide_true, decide_false, Bool.and_true, Bool.and_false, Nat.reduceEqDiff, Bool.false_and, Bool.true_and, Bool.or_true, Bool.or_false, Bool.true_or, Bool.false_or, List.toList_toArray, reduceCtorEq, List.getElem?_cons_succ, List.getElem?_cons_zero, Option.some.injEq, Bool.not_true, Bool.not_false, List.append_nil, List.nil_append, List.cons_append, primIndex, idxVal, byteOf, primLen, ty9, ty9k, bft', Nat.add_zero, Bool.not_not]
    exact rfl
  · simp only [h0, h2, h3, Al.get, beq_d, Nat.reduceEqDiff, decide_true, decide_false, and_self]
set_option maxHeartbeats 2000000 in
theorem end48 (call : CallK PV) (rc : RC PV) (s : ByteArray) (k : Nat) (hk : s.data.toList.length ≤ k) (tm : Tm) (hp : Hp)
    (h0 : Al.get tm 0 = some (.v (.string s))) (h3 : Al.get tm 3 = some (.v (.int .i64 (.ofNat k)))) :
    ∃ tm', ∀ K : Ex → St → Option PV, evC tys v48 l48 call rc ⟨tm, hp⟩ K = K (.exit 0) ⟨tm', hp⟩ := by
  have hl : (s.data.toList.length : Int) ≤ Int.ofNat k := by simp only [Int.ofNat_eq_natCast]; omega
  apply Exists.intro
  intro K
  simp only [h0, h3, hl, l48, b48, hdC, tlC, inC, v48, Tryz.f48, ↓bodyF, ↓evC, ↓evOps, ↓evStep, ↓dstOk, ↓wantedP, ↓prim, ↓primBuiltin, ↓enters, ↓entersOf, ↓evDo, ↓opd, ↓opds, consO, flat, ↓putT, ↓primBin, bin, intOp, intBin, ileb_eq, ieqb_eq, ↓primUn, una, ↓ret1, Al.get, ↓wantOf, dstAt, ↓primPick, ↓kept, ↓seqK, ↓blockK, ↓endK, resOf, resVars, resVar, initT, Tr.get, beq_d, blt_d, ble_d, bff, bft, btf, btt, List.length_cons, List.length_nil, Nat.reduceAdd, Nat.reduceLeDiff, Nat.reduceLT, decide_true, decide_false, Bool.and_true, Bool.and_false, Nat.reduceEqDiff, Bool.false_and, Bool.true_and, Bool.or_true, Bool.or_false, Bool.true_or, Bool.false_or, List.toList_toArray, reduceCtorEq, List.getElem?_cons_succ, List.getElem?_cons_zero, Option.some.injEq, Bool.not_true, Bool.not_false, List.append_nil, List.nil_append, List.cons_append, primIndex, idxVal, byteOf, primLen, ty9, ty9k, bft', Nat.add_zero, Bool.not_not]
  exact rfl
set_option maxHeartbeats 2000000 in
theorem end61 (call : CallK PV) (rc : RC PV) (s : ByteArray) (k : Nat) (hk : s.data.toList.length ≤ k) (tm : Tm) (hp : Hp)
    (h0 : Al.get tm 0 = some (.v (.string s))) (h2 : Al.get tm 2 = some (.clo 63 [])) (h3 : Al.get tm 7 = some (.v (.int .i64 (.ofNat k)))) :
    ∃ tm', ∀ K : Ex → St → Option PV, evC tys v61 l61 call rc ⟨tm, hp⟩ K = K (.exit 0) ⟨tm', hp⟩ := by
  have hl : (s.data.toList.length : Int) ≤ Int.ofNat k := by simp only [Int.ofNat_eq_natCast]; omega
  apply Exists.intro
  intro K
  simp only [h0, h2, h3, hl, l61, b61, hdC, tlC, inC, v61, Tryz.f61, ↓bodyF, ↓evC, ↓evOps, ↓evStep, ↓dstOk, ↓wantedP, ↓prim, ↓primBuiltin, ↓enters, ↓entersOf, ↓evDo, ↓opd, ↓opds, consO, flat, ↓putT, ↓primBin, bin, intOp, intBin, ileb_eq, ieqb_eq, ↓primUn, una, ↓ret1, Al.get, ↓wantOf, dstAt, ↓primPick, ↓kept, ↓seqK, ↓blockK, ↓endK, resOf, resVars, resVar, initT, Tr.get, beq_d, blt_d, ble_d, bff, bft, btf, btt, List.length_cons, List.length_nil, Nat.reduceAdd, Nat.reduceLeDiff, Nat.reduceLT, decide_true, decide_false, Bool.and_true, Bool.and_false, Nat.reduceEqDiff, Bool.false_and, Bool.true_and, Bool.or_true, Bool.or_false, Bool.true_or, Bool.false_or, List.toList_toArray, reduceCtorEq, List.getElem?_cons_succ, List.getElem?_cons_zero, Option.some.injEq, Bool.not_true, Bool.not_false, List.append_nil, List.nil_append, List.cons_append, primIndex, idxVal, byteOf, primLen, ty9, ty9k, bft', Nat.add_zero, Bool.not_not]
  exact rfl
end Go.Ev
