/- Interfaces and reports from sealed bytes. -/
import Derived.Test.YtaedechkfmjcnaaGreatDoorEvPe
set_option linter.all false
/- Interfaces and reports from sealed bytes. -/
namespace Go.Ev
open Go.Proofs
theorem enc_len (x : Int) : 1 ≤ (enc x).length ∧ (enc x).length ≤ 10 := by
  have := encInit_len 9 (zig x)
  unfold enc
  simp; omega
theorem frzR (hp : Hp) (l : List PV) (y : Value) (x : PV) (h : freeze 99998 hp x = some (x, hp)) : True := trivial
section
variable {R : Type}

theorem dec6 (O : Orc) (hO : O 53 [] = some tabPV) (n : Nat) (l : List UInt8) (h1 : 1 ≤ l.length) (h2 : l.length ≤ 10) (hp : Hp) (k : PV → Hp → Option R) :
    callF tys fns O (run tys fns O (n + 101)) 6 [bstr (sld ([1, 109, 1] ++ l))] hp k = k (.tup [fc0, i 5]) hp := by
  have hlen : ([1, 109, 1] ++ l).length = l.length + 3 := by simp
  obtain ⟨q, hq⟩ : ∃ q, n + 100 = q + ([1, 109, 1] ++ l).length + 13 := ⟨n + 84 - l.length, by omega⟩
  have hop := progOpen_ev O hO (R := R) q ([1, 109, 1] ++ l) (by omega)
  rw [← hq] at hop
  have hr := rest6 O (R := R) n l h1 h2 hp k
  have hz : ieqb (.ofNat 0) (.ofNat 0) = true := rfl
  generalize hL : [1, 109, 1] ++ l = L at hop hr
  rw [call_data (fi := e6) rfl rfl (frz1 hp _), b6, show n + 101 = (n + 100) + 1 by omega, run_succ, c6_eq]
  simp only [ev_seq, r6_0a, al26, bP_some, seqK_normal, r6_1a, hop, ext0, ext1, r6_2a, primBin_eq, bin_int, int_neq, hz, Bool.not_true, ret1_some', ev_cond, opd_tmp, alget, Nat.reduceEqDiff, reduceIte, bB_false, ev_skip]
  exact hr

theorem dec7 (O : Orc) (n : Nat) (l : List UInt8) (h1 : 1 ≤ l.length) (h2 : l.length ≤ 10) (hp : Hp) (k : PV → Hp → Option R) :
    callF tys fns O (run tys fns O (n + 101)) 7 [bstr (sld ([1, 109, 1] ++ l))] hp k = k (.tup [fc0, i 5]) hp := by
  have hlen : ([1, 109, 1] ++ l).length = l.length + 3 := by simp
  obtain ⟨q, hq⟩ : ∃ q, n + 100 = q + ([1, 109, 1] ++ l).length + 13 := ⟨n + 84 - l.length, by omega⟩
  have hop := refOpen_ev O (R := R) q ([1, 109, 1] ++ l) (by omega)
  rw [← hq] at hop
  have hr := rest7 O (R := R) n l h1 h2 hp k
  have hz : ieqb (.ofNat 0) (.ofNat 0) = true := rfl
  generalize hL : [1, 109, 1] ++ l = L at hop hr
  rw [call_data (fi := e7) rfl rfl (frz1 hp _), b7, show n + 101 = (n + 100) + 1 by omega, run_succ, c7_eq]
  simp only [ev_seq, r7_0a, al26, bP_some, seqK_normal, r7_1a, hop, ext0, ext1, r7_2a, primBin_eq, bin_int, int_neq, hz, Bool.not_true, ret1_some', ev_cond, opd_tmp, alget, Nat.reduceEqDiff, reduceIte, bB_false, ev_skip]
  exact hr

theorem rep8z (O : Orc) (hO : O 53 [] = some tabPV) (n : Nat) (x : Int) (hxe : x = .ofNat 0) (hx : -9223372036854775808 ≤ x ∧ x < 9223372036854775808) (hp : Hp) (k : PV → Hp → Option R) :
    callF tys fns O (run tys fns O (n + 102)) 8 [bstr (sld (1 :: enc x))] hp k = k (.tup [rp0, i 26]) hp := by
  obtain ⟨h1, h2⟩ := enc_len x
  have hlen : (1 :: enc x).length = (enc x).length + 1 := rfl
  obtain ⟨q, hq⟩ : ∃ q, n + 101 = q + (1 :: enc x).length + 13 := ⟨n + 87 - (enc x).length, by omega⟩
  have hop := progOpen_ev O hO (R := R) q (1 :: enc x) (by omega)
  rw [← hq] at hop
  have hz : ieqb (.ofNat 0) (.ofNat 0) = true := rfl
  have hbx : primBox tys z32 46 (some (.agg [bstr (1 :: enc x), i 0, i 0])) = some (.ptr 1 0, H8 (1 :: enc x) 0 0) := box46 z32 (1 :: enc x)
  have htr : ∀ k : PV → Hp → Option R, callF tys fns O (run tys fns O (n + 101)) 21 [.ptr 1 0] (H8 (1 :: enc x) 0 0) k = k (bt true) (H8 (1 :: enc x) 1 0) := fun k => truth21 O (n + 99) (id := 1) (a := 0) rfl rfl (by omega) k
  have hsg : ileb (.ofNat 0) x = true := by rw [hxe]; exact rfl
  have hln : ∀ k : PV → Hp → Option R, callF tys fns O (run tys fns O (n + 100)) 47 [.ptr 1 0] (H8 (1 :: enc x) 1 0) k = k (i 0) (H8 (1 :: enc x) (1 :: enc x).length 0) := by
    intro k
    have := length47_pos O (R := R) (b := 1 :: enc x) (by omega) hx hsg (n + 80) (H8 (1 :: enc x) 1 0) (id := 1) (a := 1) (by omega) rfl rfl k
    rw [hxe] at this ⊢
    exact this
  have hr := rest8z O n (enc x) h1 h2 hp k
  rw [call_data (fi := e8) rfl rfl (frz1 hp _), b8, show n + 102 = (n + 101) + 1 by omega, run_succ, c8_eq]
  simp only [ev_seq, r8_0a, al32, bP_some, seqK_normal, r8_1a, hop, ext0, ext1, r8_2a, primBin_eq, bin_int, int_neq, hz, Bool.not_true, ret1_some', ev_cond, opd_tmp, alget, Nat.reduceEqDiff, reduceIte, bB_false, ev_skip, r8_4a, bld46 _ (bstr (1 :: enc x)) rfl, hbx, r8_5a, htr, r22_0a, r22_1a, r22_2a, call_own (fi := e22) (FT := fns) (f := 22) rfl rfl, b22, run_succ, c22_eq, hln]
  simp only [ev_seq, seqK_normal] at hr
  exact hr

theorem rep8p (O : Orc) (hO : O 53 [] = some tabPV) (n : Nat) (m : Nat) (x : Int) (hxe : x = .ofNat (m + 1)) (hx : -9223372036854775808 ≤ x ∧ x < 9223372036854775808) (hp : Hp) (k : PV → Hp → Option R) :
    callF tys fns O (run tys fns O (n + 102)) 8 [bstr (sld (1 :: enc x))] hp k = k (.tup [rp0, i 26]) hp := by
  obtain ⟨h1, h2⟩ := enc_len x
  have hlen : (1 :: enc x).length = (enc x).length + 1 := rfl
  obtain ⟨q, hq⟩ : ∃ q, n + 101 = q + (1 :: enc x).length + 13 := ⟨n + 87 - (enc x).length, by omega⟩
  have hop := progOpen_ev O hO (R := R) q (1 :: enc x) (by omega)
  rw [← hq] at hop
  have hz : ieqb (.ofNat 0) (.ofNat 0) = true := rfl
  have hbx : primBox tys z32 46 (some (.agg [bstr (1 :: enc x), i 0, i 0])) = some (.ptr 1 0, H8 (1 :: enc x) 0 0) := box46 z32 (1 :: enc x)
  have htr : ∀ k : PV → Hp → Option R, callF tys fns O (run tys fns O (n + 101)) 21 [.ptr 1 0] (H8 (1 :: enc x) 0 0) k = k (bt true) (H8 (1 :: enc x) 1 0) := fun k => truth21 O (n + 99) (id := 1) (a := 0) rfl rfl (by omega) k
  have hsg : ileb (.ofNat 0) x = true := by rw [hxe]; exact (by show Nat.ble 0 (m + 1) = true; simp)
  have hln : ∀ k : PV → Hp → Option R, callF tys fns O (run tys fns O (n + 100)) 47 [.ptr 1 0] (H8 (1 :: enc x) 1 0) k = k (.v (.int .i64 (.ofNat (m + 1)))) (H8 (1 :: enc x) (1 :: enc x).length 0) := by
    intro k
    have := length47_pos O (R := R) (b := 1 :: enc x) (by omega) hx hsg (n + 80) (H8 (1 :: enc x) 1 0) (id := 1) (a := 1) (by omega) rfl rfl k
    rw [hxe] at this ⊢
    exact this
  have hr := rest8p O n m (by rw [hxe, Int.ofNat_eq_natCast] at hx; omega) (enc x) h1 h2 hp k
  rw [call_data (fi := e8) rfl rfl (frz1 hp _), b8, show n + 102 = (n + 101) + 1 by omega, run_succ, c8_eq]
  simp only [ev_seq, r8_0a, al32, bP_some, seqK_normal, r8_1a, hop, ext0, ext1, r8_2a, primBin_eq, bin_int, int_neq, hz, Bool.not_true, ret1_some', ev_cond, opd_tmp, alget, Nat.reduceEqDiff, reduceIte, bB_false, ev_skip, r8_4a, bld46 _ (bstr (1 :: enc x)) rfl, hbx, r8_5a, htr, r22_0a, r22_1a, r22_2a, call_own (fi := e22) (FT := fns) (f := 22) rfl rfl, b22, run_succ, c22_eq, hln]
  simp only [ev_seq, seqK_normal] at hr
  exact hr

theorem rep8g (O : Orc) (hO : O 53 [] = some tabPV) (n : Nat) (m : Nat) (x : Int) (hxe : x = .negSucc m) (hx : -9223372036854775808 ≤ x ∧ x < 9223372036854775808) (hp : Hp) (k : PV → Hp → Option R) :
    callF tys fns O (run tys fns O (n + 102)) 8 [bstr (sld (1 :: enc x))] hp k = k (.tup [rp0, i 5]) hp := by
  obtain ⟨h1, h2⟩ := enc_len x
  have hlen : (1 :: enc x).length = (enc x).length + 1 := rfl
  obtain ⟨q, hq⟩ : ∃ q, n + 101 = q + (1 :: enc x).length + 13 := ⟨n + 87 - (enc x).length, by omega⟩
  have hop := progOpen_ev O hO (R := R) q (1 :: enc x) (by omega)
  rw [← hq] at hop
  have hz : ieqb (.ofNat 0) (.ofNat 0) = true := rfl
  have hbx : primBox tys z32 46 (some (.agg [bstr (1 :: enc x), i 0, i 0])) = some (.ptr 1 0, H8 (1 :: enc x) 0 0) := box46 z32 (1 :: enc x)
  have htr : ∀ k : PV → Hp → Option R, callF tys fns O (run tys fns O (n + 101)) 21 [.ptr 1 0] (H8 (1 :: enc x) 0 0) k = k (bt true) (H8 (1 :: enc x) 1 0) := fun k => truth21 O (n + 99) (id := 1) (a := 0) rfl rfl (by omega) k
  have hsg : ileb (.ofNat 0) x = false := by rw [hxe]; exact rfl
  have hln : ∀ k : PV → Hp → Option R, callF tys fns O (run tys fns O (n + 100)) 47 [.ptr 1 0] (H8 (1 :: enc x) 1 0) k = k (i 0) (H8 (1 :: enc x) (1 :: enc x).length 5) := by
    intro k
    have := length47_neg O (R := R) (b := 1 :: enc x) (by omega) hx hsg (n + 80) (H8 (1 :: enc x) 1 0) (id := 1) (a := 1) (by omega) rfl rfl k
    skip
    exact this
  have hr := rest8g O n (enc x) h1 h2 hp k
  rw [call_data (fi := e8) rfl rfl (frz1 hp _), b8, show n + 102 = (n + 101) + 1 by omega, run_succ, c8_eq]
  simp only [ev_seq, r8_0a, al32, bP_some, seqK_normal, r8_1a, hop, ext0, ext1, r8_2a, primBin_eq, bin_int, int_neq, hz, Bool.not_true, ret1_some', ev_cond, opd_tmp, alget, Nat.reduceEqDiff, reduceIte, bB_false, ev_skip, r8_4a, bld46 _ (bstr (1 :: enc x)) rfl, hbx, r8_5a, htr, r22_0a, r22_1a, r22_2a, call_own (fi := e22) (FT := fns) (f := 22) rfl rfl, b22, run_succ, c22_eq, hln]
  simp only [ev_seq, seqK_normal] at hr
  exact hr

theorem rep9z (O : Orc) (n : Nat) (x : Int) (hxe : x = .ofNat 0) (hx : -9223372036854775808 ≤ x ∧ x < 9223372036854775808) (hp : Hp) (k : PV → Hp → Option R) :
    callF tys fns O (run tys fns O (n + 102)) 9 [bstr (sld (1 :: enc x))] hp k = k (.tup [rp0, i 26]) hp := by
  obtain ⟨h1, h2⟩ := enc_len x
  have hlen : (1 :: enc x).length = (enc x).length + 1 := rfl
  obtain ⟨q, hq⟩ : ∃ q, n + 101 = q + (1 :: enc x).length + 13 := ⟨n + 87 - (enc x).length, by omega⟩
  have hop := refOpen_ev O (R := R) q (1 :: enc x) (by omega)
  rw [← hq] at hop
  have hz : ieqb (.ofNat 0) (.ofNat 0) = true := rfl
  have hbx : primBox tys z32 52 (some (.agg [bstr (1 :: enc x), i 0, i 0])) = some (.ptr 1 0, H8 (1 :: enc x) 0 0) := box52 z32 (1 :: enc x)
  have htr : ∀ k : PV → Hp → Option R, callF tys fns O (run tys fns O (n + 101)) 26 [.ptr 1 0] (H8 (1 :: enc x) 0 0) k = k (bt true) (H8 (1 :: enc x) 1 0) := fun k => truth26 O (n + 99) (id := 1) (a := 0) rfl rfl (by omega) k
  have hb3 : ∀ hp : Hp, primBuild tys hp 32 (some [(0, bt true)]) = some (.agg [bt true, nl, nl, sb [], bt false, nl], hp) := fun _ => rfl
  have ha3 : primAlloc tys (H8 (1 :: enc x) 1 0) 32 = some (.ptr 2 0, ⟨[(2, ⟨[bt false, nl, nl, sb [], bt false, nl], 6, false, 0⟩), (1, rd (1 :: enc x) 1 0), (0, ⟨[bt false, nl, nl, sb [], bt false, nl], 6, false, 0⟩)], 3, []⟩) := rfl
  have hs3 : primStore tys ⟨[(2, ⟨[bt false, nl, nl, sb [], bt false, nl], 6, false, 0⟩), (1, rd (1 :: enc x) 1 0), (0, ⟨[bt false, nl, nl, sb [], bt false, nl], 6, false, 0⟩)], 3, []⟩ 32 (some (.ptr 2 0)) (some (.agg [bt true, nl, nl, sb [], bt false, nl])) = some (.un, H9 (1 :: enc x) 1 0) := by kernel_rfl
  have hsg : ileb (.ofNat 0) x = true := by rw [hxe]; exact rfl
  have hln : ∀ k : PV → Hp → Option R, callF tys fns O (run tys fns O (n + 100)) 28 [.ptr 1 0] (H9 (1 :: enc x) 1 0) k = k (i 0) (H9 (1 :: enc x) (1 :: enc x).length 0) := by
    intro k
    have := length28_pos O (R := R) (b := 1 :: enc x) (by omega) hx hsg (n + 80) (H9 (1 :: enc x) 1 0) (id := 1) (a := 1) (by omega) rfl rfl k
    rw [hxe] at this ⊢
    exact this
  have hr := rest9z O n (enc x) h1 h2 hp k
  rw [call_data (fi := e9) rfl rfl (frz1 hp _), b9, show n + 102 = (n + 101) + 1 by omega, run_succ, c9_eq]
  simp only [ev_seq, r9_0a, al32, bP_some, seqK_normal, r9_1a, hop, ext0, ext1, r9_2a, primBin_eq, bin_int, int_neq, hz, Bool.not_true, ret1_some', ev_cond, opd_tmp, alget, Nat.reduceEqDiff, reduceIte, bB_false, ev_skip, r9_4a, bld52 _ (bstr (1 :: enc x)) rfl, hbx, r9_5a, htr, hb3, ha3, hs3, r9_6a, r27_0a, r27_1a, r27_2a, call_own (fi := e27) (FT := fns) (f := 27) rfl rfl, b27, run_succ, c27_eq, hln]
  simp only [ev_seq, seqK_normal] at hr
  exact hr

theorem rep9p (O : Orc) (n : Nat) (m : Nat) (x : Int) (hxe : x = .ofNat (m + 1)) (hx : -9223372036854775808 ≤ x ∧ x < 9223372036854775808) (hp : Hp) (k : PV → Hp → Option R) :
    callF tys fns O (run tys fns O (n + 102)) 9 [bstr (sld (1 :: enc x))] hp k = k (.tup [rp0, i 26]) hp := by
  obtain ⟨h1, h2⟩ := enc_len x
  have hlen : (1 :: enc x).length = (enc x).length + 1 := rfl
  obtain ⟨q, hq⟩ : ∃ q, n + 101 = q + (1 :: enc x).length + 13 := ⟨n + 87 - (enc x).length, by omega⟩
  have hop := refOpen_ev O (R := R) q (1 :: enc x) (by omega)
  rw [← hq] at hop
  have hz : ieqb (.ofNat 0) (.ofNat 0) = true := rfl
  have hbx : primBox tys z32 52 (some (.agg [bstr (1 :: enc x), i 0, i 0])) = some (.ptr 1 0, H8 (1 :: enc x) 0 0) := box52 z32 (1 :: enc x)
  have htr : ∀ k : PV → Hp → Option R, callF tys fns O (run tys fns O (n + 101)) 26 [.ptr 1 0] (H8 (1 :: enc x) 0 0) k = k (bt true) (H8 (1 :: enc x) 1 0) := fun k => truth26 O (n + 99) (id := 1) (a := 0) rfl rfl (by omega) k
  have hb3 : ∀ hp : Hp, primBuild tys hp 32 (some [(0, bt true)]) = some (.agg [bt true, nl, nl, sb [], bt false, nl], hp) := fun _ => rfl
  have ha3 : primAlloc tys (H8 (1 :: enc x) 1 0) 32 = some (.ptr 2 0, ⟨[(2, ⟨[bt false, nl, nl, sb [], bt false, nl], 6, false, 0⟩), (1, rd (1 :: enc x) 1 0), (0, ⟨[bt false, nl, nl, sb [], bt false, nl], 6, false, 0⟩)], 3, []⟩) := rfl
  have hs3 : primStore tys ⟨[(2, ⟨[bt false, nl, nl, sb [], bt false, nl], 6, false, 0⟩), (1, rd (1 :: enc x) 1 0), (0, ⟨[bt false, nl, nl, sb [], bt false, nl], 6, false, 0⟩)], 3, []⟩ 32 (some (.ptr 2 0)) (some (.agg [bt true, nl, nl, sb [], bt false, nl])) = some (.un, H9 (1 :: enc x) 1 0) := by kernel_rfl
  have hsg : ileb (.ofNat 0) x = true := by rw [hxe]; exact (by show Nat.ble 0 (m + 1) = true; simp)
  have hln : ∀ k : PV → Hp → Option R, callF tys fns O (run tys fns O (n + 100)) 28 [.ptr 1 0] (H9 (1 :: enc x) 1 0) k = k (.v (.int .i64 (.ofNat (m + 1)))) (H9 (1 :: enc x) (1 :: enc x).length 0) := by
    intro k
    have := length28_pos O (R := R) (b := 1 :: enc x) (by omega) hx hsg (n + 80) (H9 (1 :: enc x) 1 0) (id := 1) (a := 1) (by omega) rfl rfl k
    rw [hxe] at this ⊢
    exact this
  have hr := rest9p O n m (by rw [hxe, Int.ofNat_eq_natCast] at hx; omega) (enc x) h1 h2 hp k
  rw [call_data (fi := e9) rfl rfl (frz1 hp _), b9, show n + 102 = (n + 101) + 1 by omega, run_succ, c9_eq]
  simp only [ev_seq, r9_0a, al32, bP_some, seqK_normal, r9_1a, hop, ext0, ext1, r9_2a, primBin_eq, bin_int, int_neq, hz, Bool.not_true, ret1_some', ev_cond, opd_tmp, alget, Nat.reduceEqDiff, reduceIte, bB_false, ev_skip, r9_4a, bld52 _ (bstr (1 :: enc x)) rfl, hbx, r9_5a, htr, hb3, ha3, hs3, r9_6a, r27_0a, r27_1a, r27_2a, call_own (fi := e27) (FT := fns) (f := 27) rfl rfl, b27, run_succ, c27_eq, hln]
  simp only [ev_seq, seqK_normal] at hr
  exact hr

theorem rep9g (O : Orc) (n : Nat) (m : Nat) (x : Int) (hxe : x = .negSucc m) (hx : -9223372036854775808 ≤ x ∧ x < 9223372036854775808) (hp : Hp) (k : PV → Hp → Option R) :
    callF tys fns O (run tys fns O (n + 102)) 9 [bstr (sld (1 :: enc x))] hp k = k (.tup [rp0, i 5]) hp := by
  obtain ⟨h1, h2⟩ := enc_len x
  have hlen : (1 :: enc x).length = (enc x).length + 1 := rfl
  obtain ⟨q, hq⟩ : ∃ q, n + 101 = q + (1 :: enc x).length + 13 := ⟨n + 87 - (enc x).length, by omega⟩
  have hop := refOpen_ev O (R := R) q (1 :: enc x) (by omega)
  rw [← hq] at hop
  have hz : ieqb (.ofNat 0) (.ofNat 0) = true := rfl
  have hbx : primBox tys z32 52 (some (.agg [bstr (1 :: enc x), i 0, i 0])) = some (.ptr 1 0, H8 (1 :: enc x) 0 0) := box52 z32 (1 :: enc x)
  have htr : ∀ k : PV → Hp → Option R, callF tys fns O (run tys fns O (n + 101)) 26 [.ptr 1 0] (H8 (1 :: enc x) 0 0) k = k (bt true) (H8 (1 :: enc x) 1 0) := fun k => truth26 O (n + 99) (id := 1) (a := 0) rfl rfl (by omega) k
  have hb3 : ∀ hp : Hp, primBuild tys hp 32 (some [(0, bt true)]) = some (.agg [bt true, nl, nl, sb [], bt false, nl], hp) := fun _ => rfl
  have ha3 : primAlloc tys (H8 (1 :: enc x) 1 0) 32 = some (.ptr 2 0, ⟨[(2, ⟨[bt false, nl, nl, sb [], bt false, nl], 6, false, 0⟩), (1, rd (1 :: enc x) 1 0), (0, ⟨[bt false, nl, nl, sb [], bt false, nl], 6, false, 0⟩)], 3, []⟩) := rfl
  have hs3 : primStore tys ⟨[(2, ⟨[bt false, nl, nl, sb [], bt false, nl], 6, false, 0⟩), (1, rd (1 :: enc x) 1 0), (0, ⟨[bt false, nl, nl, sb [], bt false, nl], 6, false, 0⟩)], 3, []⟩ 32 (some (.ptr 2 0)) (some (.agg [bt true, nl, nl, sb [], bt false, nl])) = some (.un, H9 (1 :: enc x) 1 0) := by kernel_rfl
  have hsg : ileb (.ofNat 0) x = false := by rw [hxe]; exact rfl
  have hln : ∀ k : PV → Hp → Option R, callF tys fns O (run tys fns O (n + 100)) 28 [.ptr 1 0] (H9 (1 :: enc x) 1 0) k = k (i 0) (H9 (1 :: enc x) (1 :: enc x).length 5) := by
    intro k
    have := length28_neg O (R := R) (b := 1 :: enc x) (by omega) hx hsg (n + 80) (H9 (1 :: enc x) 1 0) (id := 1) (a := 1) (by omega) rfl rfl k
    skip
    exact this
  have hr := rest9g O n (enc x) h1 h2 hp k
  rw [call_data (fi := e9) rfl rfl (frz1 hp _), b9, show n + 102 = (n + 101) + 1 by omega, run_succ, c9_eq]
  simp only [ev_seq, r9_0a, al32, bP_some, seqK_normal, r9_1a, hop, ext0, ext1, r9_2a, primBin_eq, bin_int, int_neq, hz, Bool.not_true, ret1_some', ev_cond, opd_tmp, alget, Nat.reduceEqDiff, reduceIte, bB_false, ev_skip, r9_4a, bld52 _ (bstr (1 :: enc x)) rfl, hbx, r9_5a, htr, hb3, ha3, hs3, r9_6a, r27_0a, r27_1a, r27_2a, call_own (fi := e27) (FT := fns) (f := 27) rfl rfl, b27, run_succ, c27_eq, hln]
  simp only [ev_seq, seqK_normal] at hr
  exact hr
end
end Go.Ev

/- The law: for every number the law's function answers true. -/
namespace Go.Ev
open Go.Proofs
abbrev B53 : Book := [(53, [([], tabPV)])]
theorem k10 [Env] : Known Tryz.prog 10 [i 0] (sb [48]) := known_ofF tOk mixed fnsOk (B := B53) ⟨⟨k53, trivial⟩, trivial⟩ e10ok (n := 100000) (by kernel_rfl)
theorem k11 [Env] : Known Tryz.prog 11 [] (bt true) := known_ofF tOk mixed fnsOk (B := B53) ⟨⟨k53, trivial⟩, trivial⟩ e11ok (n := 100000) (by kernel_rfl)
abbrev BB : Book := [(53, [([], tabPV)]), (10, [([i 0], sb [48])]), (11, [([], bt true)])]
theorem bbOk [Env] : BookOk Tryz.prog BB := ⟨⟨k53, trivial⟩, ⟨k10, trivial⟩, ⟨k11, trivial⟩, trivial⟩
theorem hBB : ask BB 53 [] = some tabPV := by kernel_rfl

abbrev w2 : Hp := ⟨[(1, ⟨[sb [], bt false, nl], 3, false, 0⟩), (0, ⟨[sb [], bt false, nl], 3, false, 0⟩)], 2, []⟩
abbrev w3 : Hp := ⟨[(2, ⟨[bt false, nl, nl, sb [], bt false, nl], 6, false, 0⟩), (1, ⟨[sb [], bt false, nl], 3, false, 0⟩), (0, ⟨[sb [], bt false, nl], 3, false, 0⟩)], 3, []⟩
abbrev w4 : Hp := ⟨[(3, ⟨[bt false, nl, nl, sb [], bt false, nl], 6, false, 0⟩), (2, ⟨[bt false, nl, nl, sb [], bt false, nl], 6, false, 0⟩), (1, ⟨[sb [], bt false, nl], 3, false, 0⟩), (0, ⟨[sb [], bt false, nl], 3, false, 0⟩)], 4, []⟩
theorem ws1 : primStore tys z26 26 (some (.ptr 0 0)) (some fc0) = some (.un, z26) := by kernel_rfl
theorem wa2 : primAlloc tys z26 26 = some (.ptr 1 0, w2) := by kernel_rfl
theorem ws2 : primStore tys w2 26 (some (.ptr 1 0)) (some fc0) = some (.un, w2) := by kernel_rfl
theorem wa3 : primAlloc tys w2 32 = some (.ptr 2 0, w3) := by kernel_rfl
theorem ws3 : primStore tys w3 32 (some (.ptr 2 0)) (some rp0) = some (.un, w3) := by kernel_rfl
theorem wa4 : primAlloc tys w3 32 = some (.ptr 3 0, w4) := by kernel_rfl
theorem ws4 : primStore tys w4 32 (some (.ptr 3 0)) (some rp0) = some (.un, w4) := by kernel_rfl

theorem last (n : Nat) (c : Nat) (h : c = 26 ∨ c = 5) : evC tys e3 (.seq r3_6 .ret) (callF tys fns (ask BB) (run tys fns (ask BB) n)) (run tys fns (ask BB) n) ⟨[(7, i 5), (9, i 5), (11, i c), (13, i c)], w4⟩ (endK tys e3.fn (dataK (fun p _ => some p) ⟨[], 0, []⟩)) = some (bt true) := by
  rcases h with rfl | rfl
  · kernel_rfl
  · kernel_rfl

theorem law3 [Env] (x k : Int) (hx : -9223372036854775808 ≤ x ∧ x < 9223372036854775808) : Known Tryz.prog 3 [.v (.int .i64 x), .v (.int .i64 k)] (bt true) := by
  refine known_of tOk mixed fnsOk (B := BB) bbOk e3ok (n := 103) ?_
  obtain ⟨h1, h2⟩ := enc_len x
  have hi := integer_ev (ask BB) (R := PV) 82 x hx
  have l3 : ([1, 109, 1] ++ enc x).length = (enc x).length + 3 := by simp
  have l1 : (1 :: enc x).length = (enc x).length + 1 := rfl
  obtain ⟨q, hq⟩ : ∃ q, 102 = q + ([1, 109, 1] ++ enc x).length + 12 := ⟨87 - (enc x).length, by omega⟩
  have hs3 := refSeal_ev (ask BB) (R := PV) q ([1, 109, 1] ++ enc x) (by omega)
  rw [← hq] at hs3
  obtain ⟨q', hq'⟩ : ∃ q, 102 = q + (1 :: enc x).length + 12 := ⟨89 - (enc x).length, by omega⟩
  have hs1 := refSeal_ev (ask BB) (R := PV) q' (1 :: enc x) (by omega)
  rw [← hq'] at hs1
  have ha3 : strBin .add ⟨⟨List.map UInt8.ofNat [1, 109, 1]⟩⟩ ⟨⟨enc x⟩⟩ = some (bstr ([1, 109, 1] ++ enc x)) := str_add _ _ (by show 3 + _ ≤ _; omega)
  have ha1 : strBin .add ⟨⟨List.map UInt8.ofNat [1]⟩⟩ ⟨⟨enc x⟩⟩ = some (bstr (1 :: enc x)) := str_add [1] _ (by show 1 + _ ≤ _; omega)
  have hd6 := dec6 (R := PV) (ask BB) hBB 1 (enc x) h1 h2
  have hd7 := dec7 (R := PV) (ask BB) 1 (enc x) h1 h2
  obtain ⟨c, hc, h8, h9⟩ : ∃ c : Nat, (c = 26 ∨ c = 5) ∧ (∀ (hp : Hp) (k : PV → Hp → Option PV), callF tys fns (ask BB) (run tys fns (ask BB) 102) 8 [bstr (sld (1 :: enc x))] hp k = k (.tup [rp0, i c]) hp) ∧
      (∀ (hp : Hp) (k : PV → Hp → Option PV), callF tys fns (ask BB) (run tys fns (ask BB) 102) 9 [bstr (sld (1 :: enc x))] hp k = k (.tup [rp0, i c]) hp) := by
    cases hxe : x with
    | ofNat m =>
      cases m with
      | zero => rw [← hxe]; exact ⟨26, .inl rfl, rep8z (R := PV) (ask BB) hBB 0 x hxe hx, rep9z (R := PV) (ask BB) 0 x hxe hx⟩
      | succ m => rw [← hxe]; exact ⟨26, .inl rfl, rep8p (R := PV) (ask BB) hBB 0 m x hxe hx, rep9p (R := PV) (ask BB) 0 m x hxe hx⟩
    | negSucc m => rw [← hxe]; exact ⟨5, .inr rfl, rep8g (R := PV) (ask BB) hBB 0 m x hxe hx, rep9g (R := PV) (ask BB) 0 m x hxe hx⟩
  have hl := last 102 c hc
  have hgo : callD (R := PV) tys e3 (run tys fns (ask BB) 103) (fun p _ => some p) (some ([.v (.int .i64 x), .v (.int .i64 k)], ⟨[], 0, []⟩)) = some (bt true) := by
    show bodyF tys e3 (run tys fns (ask BB) 103) [.v (.int .i64 x), .v (.int .i64 k)] ⟨[], 0, []⟩ (dataK _ ⟨[], 0, []⟩) = _
    simp only [ev_seq] at hl
    rw [b3, show 103 = 102 + 1 from rfl, run_succ, c3_eq]
    simp only [ev_seq, r3_0a, seqK_normal, r3_1a, hi, bP_some, primBin_eq, bin_str, ha3, ret1_some', hs3, r3_2a, hd6, ext0, ext1, al26, ws1, r3_3a, hd7, wa2, ws2, r3_4a, ha1, hs1, h8, wa3, ws3, r3_5a, h9, wa4, ws4]
    exact hl
  unfold comes
  rw [hgo]
  rfl
end Go.Ev
