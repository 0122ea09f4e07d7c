/- Names: what comes before the loops. -/
import Derived.Test.YtaceidhlamlmhaaGreatEvKeyA
set_option linter.all false
namespace Go.Ev
open Go.Proofs
variable [Env]
noncomputable def p48 : Code := hdC (tlC b48)
noncomputable def q48 : Code := hdC (hdC (tlC (tlC b48)))
noncomputable def z48 : Code := tlC (tlC (tlC b48))
theorem b48_eq : Tryz.f48.body = some (.seq (hdC b48) (.seq p48 (.seq (.seq q48 (.block 0 (.loop l48))) z48))) := by kernel_rfl
noncomputable def ops48 : List Oper := opsC (hdC p48)
theorem p48_ops (call : CallK PV) (rc : RC PV) (st : St) (K : Ex → St → Option PV) : evC tys v48 p48 call rc st K = evOps tys 42 ops48 (ops48.take 9 ++ ops48.drop 9) call st (kept none (seqK (fun st' => evC tys v48 (tlC p48) call rc st' K) K)) := by
  rw [List.take_append_drop]
  kernel_rfl
theorem p48a (call : CallK PV) (rc : RC PV) (c65 : ∀ n hp (K : Nx PV), call 65 [.v (.int .u8 n)] hp K = K (.v (.bool (lowB n))) hp) (s : ByteArray) (hp : Hp) (hl : s.data.toList.length = 0) :
    ∃ tm', (∀ K : Ex → St → Option PV, evC tys v48 p48 call rc ⟨[(2, .v (.bool false)), (0, (.v (.string s)))], hp⟩ K = K .ret ⟨tm', hp⟩) ∧ Al.get tm' 2 = some (.v (.bool false)) := by
  obtain ⟨⟨L⟩⟩ := s
  cases L with
  | cons c r => simp at hl
  | nil => exact ⟨[(2, (.v (.bool false))), (17, (.v (.bool true))), (16, .un), (15, .un), (14, .un), (13, .un), (12, (.v (.bool true))), (11, (.v (.bool true))), (10, .un), (9, .un), (8, .un), (7, (.v (.bool true))), (6, (.v (.bool true))), (5, (i 0)), (4, (.v (.string ⟨⟨[]⟩⟩))), (2, .v (.bool false)), (0, (.v (.string ⟨⟨[]⟩⟩)))], fun K => by kernel_rfl, rfl⟩
theorem p48b (call : CallK PV) (rc : RC PV) (c65 : ∀ n hp (K : Nx PV), call 65 [.v (.int .u8 n)] hp K = K (.v (.bool (lowB n))) hp) (s : ByteArray) (hp : Hp) (hl : 16 < s.data.toList.length) :
    ∃ tm', (∀ K : Ex → St → Option PV, evC tys v48 p48 call rc ⟨[(2, .v (.bool false)), (0, (.v (.string s)))], hp⟩ K = K .ret ⟨tm', hp⟩) ∧ Al.get tm' 2 = some (.v (.bool false)) := by
  obtain ⟨⟨L⟩⟩ := s
  rcases L with _ | ⟨c0, _ | ⟨c1, _ | ⟨c2, _ | ⟨c3, _ | ⟨c4, _ | ⟨c5, _ | ⟨c6, _ | ⟨c7, _ | ⟨c8, _ | ⟨c9, _ | ⟨c10, _ | ⟨c11, _ | ⟨c12, _ | ⟨c13, _ | ⟨c14, _ | ⟨c15, _ | ⟨c16, r⟩⟩⟩⟩⟩⟩⟩⟩⟩⟩⟩⟩⟩⟩⟩⟩⟩
  · simp at hl
  · simp at hl
  · simp at hl
  · simp at hl
  · simp at hl
  · simp at hl
  · simp at hl
  · simp at hl
  · simp at hl
  · simp at hl
  · simp at hl
  · simp at hl
  · simp at hl
  · simp at hl
  · simp at hl
  · simp at hl
  · simp at hl
  · refine ⟨[(2, (.v (.bool false))), (17, (.v (.bool true))), (16, .un), (15, .un), (14, .un), (13, .un), (12, (.v (.bool true))), (11, (.v (.bool true))), (10, (.v (.bool true))), (9, (.v (.int .i64 (.ofNat (r.length + 17))))), (8, (.v (.string ⟨⟨c0 :: c1 :: c2 :: c3 :: c4 :: c5 :: c6 :: c7 :: c8 :: c9 :: c10 :: c11 :: c12 :: c13 :: c14 :: c15 :: c16 :: r⟩⟩))), (7, (.v (.bool false))), (6, (.v (.bool false))), (5, (.v (.int .i64 (.ofNat (r.length + 17))))), (4, (.v (.string ⟨⟨c0 :: c1 :: c2 :: c3 :: c4 :: c5 :: c6 :: c7 :: c8 :: c9 :: c10 :: c11 :: c12 :: c13 :: c14 :: c15 :: c16 :: r⟩⟩))), (2, .v (.bool false)), (0, (.v (.string ⟨⟨c0 :: c1 :: c2 :: c3 :: c4 :: c5 :: c6 :: c7 :: c8 :: c9 :: c10 :: c11 :: c12 :: c13 :: c14 :: c15 :: c16 :: r⟩⟩)))], fun K => by kernel_rfl, rfl⟩
theorem chA48 (call : CallK PV) (s : ByteArray) (hp : Hp) (l1 : (1 : Int) ≤ (s.data.toList.length : Int)) (l2 : (s.data.toList.length : Int) ≤ 16) (k : St → Option PV) :
    evOps tys 42 ops48 (ops48.take 9) call ⟨[(2, .v (.bool false)), (0, (.v (.string s)))], hp⟩ k = k ⟨[(12, (.v (.bool false))), (11, (.v (.bool false))), (10, (.v (.bool false))), (9, (.v (.int .i64 s.data.toList.length))), (8, (.v (.string s))), (7, (.v (.bool false))), (6, (.v (.bool false))), (5, (.v (.int .i64 s.data.toList.length))), (4, (.v (.string s))), (2, .v (.bool false)), (0, (.v (.string s)))], hp⟩ := by
  simp only [l1, l2, ops48, opsC, p48, b48, hdC, tlC, Tryz.f48, List.take_succ_cons, List.take_zero, ↓evC, ↓evOps, ↓evStep, ↓dstOk, ↓wantedP, ↓prim, ↓primBuiltin, ↓enters, ↓entersOf, ↓evDo, ↓opd, ↓opds, consO, flat, ↓putT, ↓primBin, bin, intOp, intBin, ileb_eq, ieqb_eq, ↓primUn, una, ↓ret1, Al.get, ↓wantOf, dstAt, ↓primPick, ↓kept, ↓seqK, ↓blockK, ↓endK, resOf, resVars, resVar, initT, Tr.get, beq_d, blt_d, ble_d, bff, bft, btf, btt, List.length_cons, List.length_nil, Nat.reduceAdd, Nat.reduceLeDiff, Nat.reduceLT, decide_true, decide_false, Bool.and_true, Bool.and_false, Nat.reduceEqDiff, Bool.false_and, Bool.true_and, Bool.or_true, Bool.or_false, Bool.true_or, Bool.false_or, List.toList_toArray, reduceCtorEq, List.getElem?_cons_succ, List.getElem?_cons_zero, Option.some.injEq, Bool.not_true, Bool.not_false, List.append_nil, List.nil_append, List.cons_append, byteOf, primLen, ty9, ty9k, Nat.add_zero, Bool.not_not]
theorem chB48 (call : CallK PV) (c65 : ∀ n hp (K : Nx PV), call 65 [.v (.int .u8 n)] hp K = K (.v (.bool (lowB n))) hp) (s : ByteArray) (hp : Hp) (c : UInt8) (hc : s.data.toList[0]? = some c) (k : St → Option PV) :
    evOps tys 42 ops48 (ops48.drop 9) call ⟨[(12, (.v (.bool false))), (11, (.v (.bool false))), (10, (.v (.bool false))), (9, (.v (.int .i64 s.data.toList.length))), (8, (.v (.string s))), (7, (.v (.bool false))), (6, (.v (.bool false))), (5, (.v (.int .i64 s.data.toList.length))), (4, (.v (.string s))), (2, .v (.bool false)), (0, (.v (.string s)))], hp⟩ k = k ⟨(17, .v (.bool (!lowB c.toNat))) :: (16, .v (.bool (!lowB c.toNat))) :: (15, .v (.bool (lowB c.toNat))) :: (14, .v (.int .u8 c.toNat)) :: (13, .v (.string s)) :: [(12, (.v (.bool false))), (11, (.v (.bool false))), (10, (.v (.bool false))), (9, (.v (.int .i64 s.data.toList.length))), (8, (.v (.string s))), (7, (.v (.bool false))), (6, (.v (.bool false))), (5, (.v (.int .i64 s.data.toList.length))), (4, (.v (.string s))), (2, .v (.bool false)), (0, (.v (.string s)))], hp⟩ := by
  simp only [hc, c65, ↓idx0, ops48, opsC, p48, b48, hdC, tlC, Tryz.f48, List.drop_succ_cons, List.drop_zero, ↓evC, ↓evOps, ↓evStep, ↓dstOk, ↓wantedP, ↓prim, ↓primBuiltin, ↓enters, ↓entersOf, ↓evDo, ↓opd, ↓opds, consO, flat, ↓putT, ↓primBin, bin, intOp, intBin, ileb_eq, ieqb_eq, ↓primUn, una, ↓ret1, Al.get, ↓wantOf, dstAt, ↓primPick, ↓kept, ↓seqK, ↓blockK, ↓endK, resOf, resVars, resVar, initT, Tr.get, beq_d, blt_d, ble_d, bff, bft, btf, btt, List.length_cons, List.length_nil, Nat.reduceAdd, Nat.reduceLeDiff, Nat.reduceLT, decide_true, decide_false, Bool.and_true, Bool.and_false, Nat.reduceEqDiff, Bool.false_and, Bool.true_and, Bool.or_true, Bool.or_false, Bool.true_or, Bool.false_or, List.toList_toArray, reduceCtorEq, List.getElem?_cons_succ, List.getElem?_cons_zero, Option.some.injEq, Bool.not_true, Bool.not_false, List.append_nil, List.nil_append, List.cons_append, byteOf, primLen, ty9, ty9k, Nat.add_zero, Bool.not_not]
theorem p48cd (call : CallK PV) (rc : RC PV) (c65 : ∀ n hp (K : Nx PV), call 65 [.v (.int .u8 n)] hp K = K (.v (.bool (lowB n))) hp) (s : ByteArray) (hp : Hp) (c : UInt8) (hc : s.data.toList[0]? = some c) (hl : s.data.toList.length ≤ 16) (K : Ex → St → Option PV) :
    evC tys v48 p48 call rc ⟨[(2, .v (.bool false)), (0, (.v (.string s)))], hp⟩ K = evC tys v48 (tlC p48) call rc ⟨(17, .v (.bool (!lowB c.toNat))) :: (16, .v (.bool (!lowB c.toNat))) :: (15, .v (.bool (lowB c.toNat))) :: (14, .v (.int .u8 c.toNat)) :: (13, .v (.string s)) :: [(12, (.v (.bool false))), (11, (.v (.bool false))), (10, (.v (.bool false))), (9, (.v (.int .i64 s.data.toList.length))), (8, (.v (.string s))), (7, (.v (.bool false))), (6, (.v (.bool false))), (5, (.v (.int .i64 s.data.toList.length))), (4, (.v (.string s))), (2, .v (.bool false)), (0, (.v (.string s)))], hp⟩ K := by
  have hlen := (List.getElem?_eq_some_iff.1 hc).1
  rw [p48_ops, evOps_app, chA48 call s hp (by omega) (by omega), chB48 call c65 s hp c hc]
  rfl
theorem p48c (call : CallK PV) (rc : RC PV) (c65 : ∀ n hp (K : Nx PV), call 65 [.v (.int .u8 n)] hp K = K (.v (.bool (lowB n))) hp) (s : ByteArray) (hp : Hp) (c : UInt8) (hc : s.data.toList[0]? = some c) (hl : s.data.toList.length ≤ 16) (e1 : lowB c.toNat = false) :
    ∃ tm', (∀ K : Ex → St → Option PV, evC tys v48 p48 call rc ⟨[(2, .v (.bool false)), (0, (.v (.string s)))], hp⟩ K = K .ret ⟨tm', hp⟩) ∧ Al.get tm' 2 = some (.v (.bool false)) := by
  refine ⟨(2, .v (.bool false)) :: (17, .v (.bool (!lowB c.toNat))) :: (16, .v (.bool (!lowB c.toNat))) :: (15, .v (.bool (lowB c.toNat))) :: (14, .v (.int .u8 c.toNat)) :: (13, .v (.string s)) :: [(12, (.v (.bool false))), (11, (.v (.bool false))), (10, (.v (.bool false))), (9, (.v (.int .i64 s.data.toList.length))), (8, (.v (.string s))), (7, (.v (.bool false))), (6, (.v (.bool false))), (5, (.v (.int .i64 s.data.toList.length))), (4, (.v (.string s))), (2, .v (.bool false)), (0, (.v (.string s)))], fun K => ?_, rfl⟩
  rw [p48cd call rc c65 s hp c hc hl K, e1]
  kernel_rfl
theorem p48d (call : CallK PV) (rc : RC PV) (c65 : ∀ n hp (K : Nx PV), call 65 [.v (.int .u8 n)] hp K = K (.v (.bool (lowB n))) hp) (s : ByteArray) (hp : Hp) (c : UInt8) (hc : s.data.toList[0]? = some c) (hl : s.data.toList.length ≤ 16) (e1 : lowB c.toNat = true) :
    ∃ tm', (∀ K : Ex → St → Option PV, evC tys v48 p48 call rc ⟨[(2, .v (.bool false)), (0, (.v (.string s)))], hp⟩ K = K .normal ⟨tm', hp⟩) ∧ Al.get tm' 0 = some (.v (.string s)) := by
  refine ⟨(17, .v (.bool (!lowB c.toNat))) :: (16, .v (.bool (!lowB c.toNat))) :: (15, .v (.bool (lowB c.toNat))) :: (14, .v (.int .u8 c.toNat)) :: (13, .v (.string s)) :: [(12, (.v (.bool false))), (11, (.v (.bool false))), (10, (.v (.bool false))), (9, (.v (.int .i64 s.data.toList.length))), (8, (.v (.string s))), (7, (.v (.bool false))), (6, (.v (.bool false))), (5, (.v (.int .i64 s.data.toList.length))), (4, (.v (.string s))), (2, .v (.bool false)), (0, (.v (.string s)))], fun K => ?_, rfl⟩
  rw [p48cd call rc c65 s hp c hc hl K, e1]
  kernel_rfl
noncomputable def p61 : Code := hdC (tlC b61)
noncomputable def q61 : Code := hdC (hdC (tlC (tlC b61)))
noncomputable def z61 : Code := tlC (tlC (tlC b61))
theorem b61_eq : Tryz.f61.body = some (.seq (hdC b61) (.seq p61 (.seq (.seq q61 (.block 0 (.loop l61))) z61))) := by kernel_rfl
noncomputable def ops61 : List Oper := match hdC p61 with
  | .region _ ops _ => ops.toList
  | _ => []
theorem p61_ops (call : CallK PV) (rc : RC PV) (st : St) (K : Ex → St → Option PV) : evC tys v61 p61 call rc st K = evOps tys 35 ops61 (ops61.take 9 ++ ops61.drop 9) call st (kept none (seqK (fun st' => evC tys v61 (tlC p61) call rc st' K) K)) := by
  rw [List.take_append_drop]
  kernel_rfl
theorem p61a (call : CallK PV) (rc : RC PV) (c62 : ∀ n hp K, call 62 [.v (.int .u8 n)] hp K = K (.v (.bool (lowB n))) hp) (s : ByteArray) (hp : Hp) (hl : s.data.toList.length = 0) :
    ∃ tm', (∀ K : Ex → St → Option PV, evC tys v61 p61 call rc ⟨[(6, .v (.bool false)), (0, (.v (.string s))), (1, (.clo 62 [])), (2, (.clo 63 []))], hp⟩ K = K .ret ⟨tm', hp⟩) ∧ Al.get tm' 6 = some (.v (.bool false)) := by
  obtain ⟨⟨L⟩⟩ := s
  cases L with
  | cons c r => simp at hl
  | nil => exact ⟨(6, .v (.bool false)) :: (22, .v (.bool true)) :: (21, .un) :: (20, .un) :: (19, .un) :: (18, .un) :: (17, .un) :: (16, .v (.bool true)) :: (15, .v (.bool true)) :: (14, .un) :: (13, .un) :: (12, .un) :: (11, .v (.bool true)) :: (10, .v (.bool true)) :: (9, i 0) :: (8, .v (.string ⟨⟨[]⟩⟩)) :: [(6, .v (.bool false)), (0, .v (.string ⟨⟨[]⟩⟩)), (1, .clo 62 []), (2, .clo 63 [])], fun K => by kernel_rfl, rfl⟩
theorem p61b (call : CallK PV) (rc : RC PV) (c62 : ∀ n hp K, call 62 [.v (.int .u8 n)] hp K = K (.v (.bool (lowB n))) hp) (s : ByteArray) (hp : Hp) (hl : 16 < s.data.toList.length) :
    ∃ tm', (∀ K : Ex → St → Option PV, evC tys v61 p61 call rc ⟨[(6, .v (.bool false)), (0, (.v (.string s))), (1, (.clo 62 [])), (2, (.clo 63 []))], hp⟩ K = K .ret ⟨tm', hp⟩) ∧ Al.get tm' 6 = some (.v (.bool false)) := by
  obtain ⟨⟨L⟩⟩ := s
  rcases L with _ | ⟨c0, _ | ⟨c1, _ | ⟨c2, _ | ⟨c3, _ | ⟨c4, _ | ⟨c5, _ | ⟨c6, _ | ⟨c7, _ | ⟨c8, _ | ⟨c9, _ | ⟨c10, _ | ⟨c11, _ | ⟨c12, _ | ⟨c13, _ | ⟨c14, _ | ⟨c15, _ | ⟨c16, r⟩⟩⟩⟩⟩⟩⟩⟩⟩⟩⟩⟩⟩⟩⟩⟩⟩
  · simp at hl
  · simp at hl
  · simp at hl
  · simp at hl
  · simp at hl
  · simp at hl
  · simp at hl
  · simp at hl
  · simp at hl
  · simp at hl
  · simp at hl
  · simp at hl
  · simp at hl
  · simp at hl
  · simp at hl
  · simp at hl
  · simp at hl
  · refine ⟨(6, .v (.bool false)) :: (22, .v (.bool true)) :: (21, .un) :: (20, .un) :: (19, .un) :: (18, .un) :: (17, .un) :: (16, .v (.bool true)) :: (15, .v (.bool true)) :: (14, .v (.bool true)) :: (13, .v (.int .i64 (.ofNat (r.length + 17)))) :: (12, .v (.string ⟨⟨c0 :: c1 :: c2 :: c3 :: c4 :: c5 :: c6 :: c7 :: c8 :: c9 :: c10 :: c11 :: c12 :: c13 :: c14 :: c15 :: c16 :: r⟩⟩)) :: (11, .v (.bool false)) :: (10, .v (.bool false)) :: (9, .v (.int .i64 (.ofNat (r.length + 17)))) :: (8, .v (.string ⟨⟨c0 :: c1 :: c2 :: c3 :: c4 :: c5 :: c6 :: c7 :: c8 :: c9 :: c10 :: c11 :: c12 :: c13 :: c14 :: c15 :: c16 :: r⟩⟩)) :: [(6, .v (.bool false)), (0, .v (.string ⟨⟨c0 :: c1 :: c2 :: c3 :: c4 :: c5 :: c6 :: c7 :: c8 :: c9 :: c10 :: c11 :: c12 :: c13 :: c14 :: c15 :: c16 :: r⟩⟩)), (1, .clo 62 []), (2, .clo 63 [])], fun K => by kernel_rfl, rfl⟩
set_option maxHeartbeats 2000000 in
theorem chA (call : CallK PV) (s : ByteArray) (hp : Hp) (l1 : (1 : Int) ≤ (s.data.toList.length : Int)) (l2 : (s.data.toList.length : Int) ≤ 16) (k : St → Option PV) :
    evOps tys 35 ops61 (ops61.take 9) call ⟨[(6, .v (.bool false)), (0, (.v (.string s))), (1, (.clo 62 [])), (2, (.clo 63 []))], hp⟩ k = k ⟨[(16, .v (.bool false)), (15, .v (.bool false)), (14, .v (.bool false)), (13, .v (.int .i64 s.data.toList.length)), (12, .v (.string s)), (11, .v (.bool false)), (10, .v (.bool false)), (9, .v (.int .i64 s.data.toList.length)), (8, .v (.string s)), (6, .v (.bool false)), (0, (.v (.string s))), (1, (.clo 62 [])), (2, (.clo 63 []))], hp⟩ := by
  simp only [l1, l2, ops61, p61, b61, hdC, tlC, Tryz.f61, List.take_succ_cons, List.take_zero, ↓evC, ↓evOps, ↓evStep, ↓dstOk, ↓wantedP, ↓prim, ↓primBuiltin, ↓enters, ↓entersOf, ↓evDo, ↓opd, ↓opds, consO, flat, ↓putT, ↓primBin, bin, intOp, intBin, ileb_eq, ieqb_eq, ↓primUn, una, ↓ret1, Al.get, ↓wantOf, dstAt, ↓primPick, ↓kept, ↓seqK, ↓blockK, ↓endK, resOf, resVars, resVar, initT, Tr.get, beq_d, blt_d, ble_d, bff, bft, btf, btt, List.length_cons, List.length_nil, Nat.reduceAdd, Nat.reduceLeDiff, Nat.reduceLT, decide_true, decide_false, Bool.and_true, Bool.and_false, Nat.reduceEqDiff, Bool.false_and, Bool.true_and, Bool.or_true, Bool.or_false, Bool.true_or, Bool.false_or, List.toList_toArray, reduceCtorEq, List.getElem?_cons_succ, List.getElem?_cons_zero, Option.some.injEq, Bool.not_true, Bool.not_false, List.append_nil, List.nil_append, List.cons_append, byteOf, primLen, ty9, ty9k, Nat.add_zero, Bool.not_not]
set_option maxHeartbeats 2000000 in
theorem chB (call : CallK PV) (c62 : ∀ n hp K, call 62 [.v (.int .u8 n)] hp K = K (.v (.bool (lowB n))) hp) (s : ByteArray) (hp : Hp) (c : UInt8) (hc : s.data.toList[0]? = some c) (k : St → Option PV) :
    evOps tys 35 ops61 (ops61.drop 9) call ⟨[(16, .v (.bool false)), (15, .v (.bool false)), (14, .v (.bool false)), (13, .v (.int .i64 s.data.toList.length)), (12, .v (.string s)), (11, .v (.bool false)), (10, .v (.bool false)), (9, .v (.int .i64 s.data.toList.length)), (8, .v (.string s)), (6, .v (.bool false)), (0, (.v (.string s))), (1, (.clo 62 [])), (2, (.clo 63 []))], hp⟩ k = k ⟨(22, .v (.bool (!lowB c.toNat))) :: (21, .v (.bool (!lowB c.toNat))) :: (20, .v (.bool (lowB c.toNat))) :: (19, .v (.int .u8 c.toNat)) :: (18, .v (.string s)) :: (17, .clo 62 []) :: [(16, .v (.bool false)), (15, .v (.bool false)), (14, .v (.bool false)), (13, .v (.int .i64 s.data.toList.length)), (12, .v (.string s)), (11, .v (.bool false)), (10, .v (.bool false)), (9, .v (.int .i64 s.data.toList.length)), (8, .v (.string s)), (6, .v (.bool false)), (0, (.v (.string s))), (1, (.clo 62 [])), (2, (.clo 63 []))], hp⟩ := by
  simp only [hc, c62, ↓idx0, ops61, p61, b61, hdC, tlC, Tryz.f61, List.drop_succ_cons, List.drop_zero, ↓evC, ↓evOps, ↓evStep, ↓dstOk, ↓wantedP, ↓prim, ↓primBuiltin, ↓enters, ↓entersOf, ↓evDo, ↓opd, ↓opds, consO, flat, ↓putT, ↓primBin, bin, intOp, intBin, ileb_eq, ieqb_eq, ↓primUn, una, ↓ret1, Al.get, ↓wantOf, dstAt, ↓primPick, ↓kept, ↓seqK, ↓blockK, ↓endK, resOf, resVars, resVar, initT, Tr.get, beq_d, blt_d, ble_d, bff, bft, btf, btt, List.length_cons, List.length_nil, Nat.reduceAdd, Nat.reduceLeDiff, Nat.reduceLT, decide_true, decide_false, Bool.and_true, Bool.and_false, Nat.reduceEqDiff, Bool.false_and, Bool.true_and, Bool.or_true, Bool.or_false, Bool.true_or, Bool.false_or, List.toList_toArray, reduceCtorEq, List.getElem?_cons_succ, List.getElem?_cons_zero, Option.some.injEq, Bool.not_true, Bool.not_false, List.append_nil, List.nil_append, List.cons_append, byteOf, primLen, ty9, ty9k, Nat.add_zero, Bool.not_not]
theorem p61cd (call : CallK PV) (rc : RC PV) (c62 : ∀ n hp K, call 62 [.v (.int .u8 n)] hp K = K (.v (.bool (lowB n))) hp) (s : ByteArray) (hp : Hp) (c : UInt8) (hc : s.data.toList[0]? = some c) (hl : s.data.toList.length ≤ 16) (K : Ex → St → Option PV) :
    evC tys v61 p61 call rc ⟨[(6, .v (.bool false)), (0, (.v (.string s))), (1, (.clo 62 [])), (2, (.clo 63 []))], hp⟩ K = evC tys v61 (tlC p61) call rc ⟨(22, .v (.bool (!lowB c.toNat))) :: (21, .v (.bool (!lowB c.toNat))) :: (20, .v (.bool (lowB c.toNat))) :: (19, .v (.int .u8 c.toNat)) :: (18, .v (.string s)) :: (17, .clo 62 []) :: [(16, .v (.bool false)), (15, .v (.bool false)), (14, .v (.bool false)), (13, .v (.int .i64 s.data.toList.length)), (12, .v (.string s)), (11, .v (.bool false)), (10, .v (.bool false)), (9, .v (.int .i64 s.data.toList.length)), (8, .v (.string s)), (6, .v (.bool false)), (0, (.v (.string s))), (1, (.clo 62 [])), (2, (.clo 63 []))], hp⟩ K := by
  have hlen := (List.getElem?_eq_some_iff.1 hc).1
  rw [p61_ops, evOps_app, chA call s hp (by omega) (by omega), chB call c62 s hp c hc]
  rfl
theorem p61c (call : CallK PV) (rc : RC PV) (c62 : ∀ n hp K, call 62 [.v (.int .u8 n)] hp K = K (.v (.bool (lowB n))) hp) (s : ByteArray) (hp : Hp) (c : UInt8) (hc : s.data.toList[0]? = some c) (hl : s.data.toList.length ≤ 16) (e1 : lowB c.toNat = false) :
    ∃ tm', (∀ K : Ex → St → Option PV, evC tys v61 p61 call rc ⟨[(6, .v (.bool false)), (0, (.v (.string s))), (1, (.clo 62 [])), (2, (.clo 63 []))], hp⟩ K = K .ret ⟨tm', hp⟩) ∧ Al.get tm' 6 = some (.v (.bool false)) := by
  refine ⟨(6, .v (.bool false)) :: (22, .v (.bool (!lowB c.toNat))) :: (21, .v (.bool (!lowB c.toNat))) :: (20, .v (.bool (lowB c.toNat))) :: (19, .v (.int .u8 c.toNat)) :: (18, .v (.string s)) :: (17, .clo 62 []) :: [(16, .v (.bool false)), (15, .v (.bool false)), (14, .v (.bool false)), (13, .v (.int .i64 s.data.toList.length)), (12, .v (.string s)), (11, .v (.bool false)), (10, .v (.bool false)), (9, .v (.int .i64 s.data.toList.length)), (8, .v (.string s)), (6, .v (.bool false)), (0, (.v (.string s))), (1, (.clo 62 [])), (2, (.clo 63 []))], fun K => ?_, rfl⟩
  rw [p61cd call rc c62 s hp c hc hl K, e1]
  kernel_rfl
theorem p61d (call : CallK PV) (rc : RC PV) (c62 : ∀ n hp K, call 62 [.v (.int .u8 n)] hp K = K (.v (.bool (lowB n))) hp) (s : ByteArray) (hp : Hp) (c : UInt8) (hc : s.data.toList[0]? = some c) (hl : s.data.toList.length ≤ 16) (e1 : lowB c.toNat = true) :
    ∃ tm', (∀ K : Ex → St → Option PV, evC tys v61 p61 call rc ⟨[(6, .v (.bool false)), (0, (.v (.string s))), (1, (.clo 62 [])), (2, (.clo 63 []))], hp⟩ K = K .normal ⟨tm', hp⟩) ∧ Al.get tm' 0 = some (.v (.string s)) ∧ Al.get tm' 1 = some (.clo 62 []) ∧ Al.get tm' 2 = some (.clo 63 []) := by
  refine ⟨(22, .v (.bool (!lowB c.toNat))) :: (21, .v (.bool (!lowB c.toNat))) :: (20, .v (.bool (lowB c.toNat))) :: (19, .v (.int .u8 c.toNat)) :: (18, .v (.string s)) :: (17, .clo 62 []) :: [(16, .v (.bool false)), (15, .v (.bool false)), (14, .v (.bool false)), (13, .v (.int .i64 s.data.toList.length)), (12, .v (.string s)), (11, .v (.bool false)), (10, .v (.bool false)), (9, .v (.int .i64 s.data.toList.length)), (8, .v (.string s)), (6, .v (.bool false)), (0, (.v (.string s))), (1, (.clo 62 [])), (2, (.clo 63 []))], fun K => ?_, rfl, rfl, rfl⟩
  rw [p61cd call rc c62 s hp c hc hl K, e1]
  kernel_rfl
end Go.Ev
