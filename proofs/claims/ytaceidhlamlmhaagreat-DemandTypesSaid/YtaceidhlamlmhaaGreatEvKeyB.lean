/- Names: both programs' loops over a name's letters, whole. -/
import Derived.Test.YtaceidhlamlmhaaGreatEvKeyA
set_option linter.all false
namespace Go.Ev
open Go.Proofs
variable [Env]
abbrev allW (l : List UInt8) : Bool := l.all fun c => wordB c.toNat
theorem drop_cons {l : List UInt8} {k : Nat} {c : UInt8} (h : l[k]? = some c) : l.drop k = c :: l.drop (k + 1) := by
  obtain ⟨h1, h2⟩ := List.getElem?_eq_some_iff.1 h
  rw [List.drop_eq_getElem_cons h1, h2]
set_option maxHeartbeats 2000000 in
theorem end48x (call : CallK PV) (rc : RC PV) (s : ByteArray) (k : Nat) (hk : s.data.toList.length ≤ k) (tm : Tm) (hp : Hp)
    (h0 : Al.get tm 0 = some (.v (.string s))) (h3 : Al.get tm 3 = some (.v (.int .i64 (.ofNat k)))) (K : Ex → St → Option PV) :
    evC tys v48 l48 call rc ⟨tm, hp⟩ K = K (.exit 0) ⟨(21, .v (.bool false)) :: (20, .v (.int .i64 s.data.toList.length)) :: (19, .v (.string s)) :: (18, .v (.int .i64 (.ofNat k))) :: tm, hp⟩ := by
  have hl : (s.data.toList.length : Int) ≤ Int.ofNat k := by simp only [Int.ofNat_eq_natCast]; omega
  simp only [h0, h3, hl, l48, b48, hdC, tlC, inC, v48, Tryz.f48, ↓evC, ↓evOps, ↓evStep, ↓dstOk, ↓wantedP, ↓prim, ↓primBuiltin, ↓enters, ↓entersOf, ↓evDo, ↓opd, ↓opds, consO, flat, ↓putT, ↓primBin, bin, intOp, intBin, ileb_eq, ieqb_eq, ↓primUn, una, ↓ret1, Al.get, ↓wantOf, dstAt, ↓primPick, ↓kept, ↓seqK, ↓blockK, ↓endK, resOf, resVars, resVar, initT, Tr.get, beq_d, blt_d, ble_d, bff, bft, btf, btt, List.length_cons, List.length_nil, Nat.reduceAdd, Nat.reduceLeDiff, Nat.reduceLT, decide_true, decide_false, Bool.and_true, Bool.and_false, Nat.reduceEqDiff, Bool.false_and, Bool.true_and, Bool.or_true, Bool.or_false, Bool.true_or, Bool.false_or, List.toList_toArray, reduceCtorEq, List.getElem?_cons_succ, List.getElem?_cons_zero, Option.some.injEq, Bool.not_true, Bool.not_false, List.append_nil, List.nil_append, List.cons_append, primIndex, idxVal, byteOf, primLen, ty9, ty9k, Nat.add_zero, Bool.not_not]
set_option maxHeartbeats 2000000 in
theorem end61x (call : CallK PV) (rc : RC PV) (s : ByteArray) (k : Nat) (hk : s.data.toList.length ≤ k) (tm : Tm) (hp : Hp)
    (h0 : Al.get tm 0 = some (.v (.string s))) (h2 : Al.get tm 2 = some (.clo 63 [])) (h3 : Al.get tm 7 = some (.v (.int .i64 (.ofNat k)))) (K : Ex → St → Option PV) :
    evC tys v61 l61 call rc ⟨tm, hp⟩ K = K (.exit 0) ⟨(26, .v (.bool false)) :: (25, .v (.int .i64 s.data.toList.length)) :: (24, .v (.string s)) :: (23, .v (.int .i64 (.ofNat k))) :: tm, hp⟩ := by
  have hl : (s.data.toList.length : Int) ≤ Int.ofNat k := by simp only [Int.ofNat_eq_natCast]; omega
  simp only [h0, h2, h3, hl, l61, b61, hdC, tlC, inC, v61, Tryz.f61, ↓evC, ↓evOps, ↓evStep, ↓dstOk, ↓wantedP, ↓prim, ↓primBuiltin, ↓enters, ↓entersOf, ↓evDo, ↓opd, ↓opds, consO, flat, ↓putT, ↓primBin, bin, intOp, intBin, ileb_eq, ieqb_eq, ↓primUn, una, ↓ret1, Al.get, ↓wantOf, dstAt, ↓primPick, ↓kept, ↓seqK, ↓blockK, ↓endK, resOf, resVars, resVar, initT, Tr.get, beq_d, blt_d, ble_d, bff, bft, btf, btt, List.length_cons, List.length_nil, Nat.reduceAdd, Nat.reduceLeDiff, Nat.reduceLT, decide_true, decide_false, Bool.and_true, Bool.and_false, Nat.reduceEqDiff, Bool.false_and, Bool.true_and, Bool.or_true, Bool.or_false, Bool.true_or, Bool.false_or, List.toList_toArray, reduceCtorEq, List.getElem?_cons_succ, List.getElem?_cons_zero, Option.some.injEq, Bool.not_true, Bool.not_false, List.append_nil, List.nil_append, List.cons_append, primIndex, idxVal, byteOf, primLen, ty9, ty9k, Nat.add_zero, Bool.not_not]

theorem loop48 {FT : Fns} {O : Orc} (hp : Hp) (s : ByteArray) (hs : s.data.toList.length < 1000)
    (c65 : ∀ N n hp (K : Nx PV), callF tys FT O (run tys FT O (N + 1)) 65 [.v (.int .u8 n)] hp K = K (.v (.bool (lowB n))) hp) (c66 : ∀ N n hp (K : Nx PV), callF tys FT O (run tys FT O (N + 1)) 66 [.v (.int .u8 n)] hp K = K (.v (.bool (digB n))) hp)
    (N : Nat) : ∀ (d k : Nat) (tm : Tm), s.data.toList.length = k + d → Al.get tm 0 = some (.v (.string s)) → Al.get tm 3 = some (.v (.int .i64 (.ofNat k))) →
      ∃ ex tm', (∀ K : Ex → St → Option PV, run tys FT O (N + d + 3) v48 (.loop l48) ⟨tm, hp⟩ K = K ex ⟨tm', hp⟩) ∧
        ((allW (s.data.toList.drop k) = true ∧ ex = .exit 0) ∨ (allW (s.data.toList.drop k) = false ∧ ex = .ret ∧ Al.get tm' 2 = some (.v (.bool false)))) := by
  intro d
  induction d with
  | zero =>
    intro k tm hk h0 h3
    refine ⟨.exit 0, _, fun K => end48x _ _ s k (by omega) tm hp h0 h3 _, .inl ⟨?_, rfl⟩⟩
    rw [List.drop_eq_nil_of_le (by omega)]; rfl
  | succ d ih =>
    intro k tm hk h0 h3
    have hc : s.data.toList[k]? = some s.data.toList[k] := List.getElem?_eq_getElem (by omega)
    generalize s.data.toList[k] = c at hc
    have hd : allW (s.data.toList.drop k) = (wordB c.toNat && allW (s.data.toList.drop (k + 1))) := by rw [drop_cons hc]; rfl
    have good : (∃ tm', (∀ K : Ex → St → Option PV, evC tys v48 l48 (callF tys FT O (run tys FT O (N + d + 2 + 1))) (run tys FT O (N + d + 2 + 1)) ⟨tm, hp⟩ K = K .normal ⟨tm', hp⟩) ∧ Al.get tm' 0 = some (.v (.string s)) ∧ Al.get tm' 3 = some (.v (.int .i64 (.ofNat (k + 1))))) →
        wordB c.toNat = true → ∃ ex tm', (∀ K : Ex → St → Option PV, run tys FT O (N + (d + 1) + 3) v48 (.loop l48) ⟨tm, hp⟩ K = K ex ⟨tm', hp⟩) ∧
        ((allW (s.data.toList.drop k) = true ∧ ex = .exit 0) ∨ (allW (s.data.toList.drop k) = false ∧ ex = .ret ∧ Al.get tm' 2 = some (.v (.bool false)))) := by
      rintro ⟨tm1, g1, g2, g3⟩ hw
      obtain ⟨ex, tm2, i1, i2⟩ := ih (k + 1) tm1 (by omega) g2 g3
      refine ⟨ex, tm2, fun K => (g1 _).trans (i1 K), ?_⟩
      rw [hd, hw, Bool.true_and]
      exact i2
    cases e1 : lowB c.toNat with
    | true => exact good (go48a _ _ (c65 _) (c66 _) s k c hc (by omega) tm hp h0 h3 e1) (by unfold wordB; rw [e1]; rfl)
    | false =>
      cases e2 : digB c.toNat with
      | true => exact good (go48b _ _ (c65 _) (c66 _) s k c hc (by omega) tm hp h0 h3 e1 e2) (by unfold wordB; rw [e1, e2]; rfl)
      | false =>
        cases e3 : ((c.toNat : Int) == 95) with
        | true => exact good (go48c _ _ (c65 _) (c66 _) s k c hc (by omega) tm hp h0 h3 e1 e2 e3) (by unfold wordB; rw [e1, e2, e3]; rfl)
        | false =>
          obtain ⟨tm1, g1, g2⟩ := no48 (callF tys FT O (run tys FT O (N + d + 2 + 1))) (run tys FT O (N + d + 2 + 1)) (c65 _) (c66 _) s k c hc (by omega) tm hp h0 h3 e1 e2 e3
          refine ⟨.ret, tm1, fun K => g1 _, .inr ⟨?_, rfl, g2⟩⟩
          rw [hd]; unfold wordB; rw [e1, e2, e3]; rfl
theorem loop61 {FT : Fns} {O : Orc} (hp : Hp) (s : ByteArray) (hs : s.data.toList.length < 1000)
    (c63 : ∀ N n hp (K : Nx PV), callF tys FT O (run tys FT O (N + 2)) 63 [.v (.int .u8 n)] hp K = K (.v (.bool (wordB n))) hp)
    (N : Nat) : ∀ (d k : Nat) (tm : Tm), s.data.toList.length = k + d → Al.get tm 0 = some (.v (.string s)) → Al.get tm 2 = some (.clo 63 []) → Al.get tm 7 = some (.v (.int .i64 (.ofNat k))) →
      ∃ ex tm', (∀ K : Ex → St → Option PV, run tys FT O (N + d + 3) v61 (.loop l61) ⟨tm, hp⟩ K = K ex ⟨tm', hp⟩) ∧
        ((allW (s.data.toList.drop k) = true ∧ ex = .exit 0) ∨ (allW (s.data.toList.drop k) = false ∧ ex = .ret ∧ Al.get tm' 6 = some (.v (.bool false)))) := by
  intro d
  induction d with
  | zero =>
    intro k tm hk h0 h2 h3
    refine ⟨.exit 0, _, fun K => end61x _ _ s k (by omega) tm hp h0 h2 h3 _, .inl ⟨?_, rfl⟩⟩
    rw [List.drop_eq_nil_of_le (by omega)]; rfl
  | succ d ih =>
    intro k tm hk h0 h2 h3
    have hc : s.data.toList[k]? = some s.data.toList[k] := List.getElem?_eq_getElem (by omega)
    generalize s.data.toList[k] = c at hc
    have hd : allW (s.data.toList.drop k) = (wordB c.toNat && allW (s.data.toList.drop (k + 1))) := by rw [drop_cons hc]; rfl
    cases e1 : wordB c.toNat with
    | true =>
      obtain ⟨tm1, g1, g2, g2', g3⟩ := go61 (callF tys FT O (run tys FT O (N + d + 1 + 2))) (run tys FT O (N + d + 1 + 2)) (c63 _) s k c hc (by omega) tm hp h0 h2 h3 e1
      obtain ⟨ex, tm2, i1, i2⟩ := ih (k + 1) tm1 (by omega) g2 g2' g3
      refine ⟨ex, tm2, fun K => (g1 _).trans (i1 K), ?_⟩
      rw [hd, e1, Bool.true_and]
      exact i2
    | false =>
      obtain ⟨tm1, g1, g2⟩ := no61 (callF tys FT O (run tys FT O (N + d + 1 + 2))) (run tys FT O (N + d + 1 + 2)) (c63 _) s k c hc (by omega) tm hp h0 h2 h3 e1
      refine ⟨.ret, tm1, fun K => g1 _, .inr ⟨?_, rfl, g2⟩⟩
      rw [hd, e1]; rfl
end Go.Ev
