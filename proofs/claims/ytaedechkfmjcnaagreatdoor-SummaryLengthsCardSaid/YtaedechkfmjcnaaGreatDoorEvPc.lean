/- The readers' next bytes. -/
import Derived.Test.YtaedechkfmjcnaaGreatDoorEvPb
set_option linter.all false
/- The readers' next bytes. -/
namespace Go.Ev
open Go.Proofs

/-- a reader: its text, its place, its code -/
abbrev rd (b : List UInt8) (a c : Nat) : Blk := ⟨[bstr b, i a, i c], 3, false, 0⟩
theorem fa46 (hp : Hp) (id f : Nat) (hf : f < 3) : primFieldAddr tys hp 46 f (some (.ptr id 0)) = some (.ptr id f, hp) := by
  match f, hf with
  | 0, _ => rfl
  | 1, _ => rfl
  | 2, _ => rfl
theorem fa52 (hp : Hp) (id f : Nat) (hf : f < 3) : primFieldAddr tys hp 52 f (some (.ptr id 0)) = some (.ptr id f, hp) := by
  match f, hf with
  | 0, _ => rfl
  | 1, _ => rfl
  | 2, _ => rfl
theorem ld0 {hp : Hp} {id a c : Nat} {b : List UInt8} (h : hp.get id = some (rd b a c)) : primLoad tys hp 9 (some (.ptr id 0)) = some (bstr b, hp) := load_cell (i := y9) rfl rfl h rfl
theorem ld1 {hp : Hp} {id a c : Nat} {b : List UInt8} (h : hp.get id = some (rd b a c)) : primLoad tys hp 3 (some (.ptr id 1)) = some (i a, hp) := load_cell (i := y3) rfl rfl h rfl
theorem ld2 {hp : Hp} {id a c : Nat} {b : List UInt8} (h : hp.get id = some (rd b a c)) : primLoad tys hp 27 (some (.ptr id 2)) = some (i c, hp) := load_cell (i := y27) rfl rfl h rfl
theorem st1' {hp : Hp} {id a c : Nat} {b : List UInt8} (h : hp.get id = some (rd b a c)) (n : Nat) : primStore tys hp 3 (some (.ptr id 1)) (some (i n)) = some (.un, hp.put id (rd b n c)) :=
  store_cell (i := y3) rfl rfl h rfl rfl rfl

theorem next46 (O : Orc) {R : Type} (n : Nat) {hp : Hp} {id a : Nat} {b : List UInt8} {c : UInt8} (h : hp.get id = some (rd b a 0)) (hc : b[a]? = some c) (hl : b.length ≤ 1000000) (k : PV → Hp → Option R) :
    callF tys fns O (run tys fns O (n + 1)) 46 [.ptr id 0] hp k = k (u8 c.toNat) (hp.put id (rd b (a + 1) 0)) := by
  have hlt : a < b.length := (List.getElem?_eq_some_iff.1 hc).1
  have hb : (Nat.ble b.length a) = false := by rw [Bool.eq_false_iff]; intro e; have := Nat.le_of_ble_eq_true e; omega
  have h' := get_put hp id (rd b (a + 1) 0) _ h
  have hz : ieqb (.ofNat 0) (.ofNat 0) = true := rfl
  have hix := idx9 (hp.put id (rd b (a + 1) 0)) b a c hc
  rw [call_own (fi := e46) rfl rfl, b46, run_succ, c46_eq]
  simp only [ev_seq, r46_0a, seqK_normal, r46_1a, nil_ptr, bP_some, fa46 _ _ _ (show 2 < 3 by decide), fa46 _ _ _ (show 1 < 3 by decide), fa46 _ _ _ (show 0 < 3 by decide), ld0 h, ld1 h, ld2 h, logLoad_v, bLg_some, primBin_eq, bin_int, int_neq, hz, Bool.not_true, ret1_some', want_ff, bWD_true, ranL_true,
    len9, int_geq, ofNat_ble, hb, pick_f, ev_cond, opd_tmp, alget, Nat.reduceEqDiff, reduceIte, bB_false, ev_skip, r46_4a, int_add64 a 1 (by omega), st1' h, r46_5a, ld0 h', ld1 h', int_sub64 (a + 1) 1 (by omega) (by omega), Nat.add_sub_cancel, hix,
    ev_ret, seqK_ret, endK_ret, z46a, consO_some, oneR_one, bQ_some]

theorem one50 (O : Orc) {R : Type} (n : Nat) {hp : Hp} {id a : Nat} {b : List UInt8} {c : UInt8} (h : hp.get id = some (rd b a 0)) (hc : b[a]? = some c) (hl : b.length ≤ 1000000) (k : PV → Hp → Option R) :
    callF tys fns O (run tys fns O (n + 1)) 50 [.ptr id 0] hp k = k (u8 c.toNat) (hp.put id (rd b (a + 1) 0)) := by
  have hlt : a < b.length := (List.getElem?_eq_some_iff.1 hc).1
  have hb : (Nat.ble b.length a) = false := by rw [Bool.eq_false_iff]; intro e; have := Nat.le_of_ble_eq_true e; omega
  have h' := get_put hp id (rd b (a + 1) 0) _ h
  have hz : ieqb (.ofNat 0) (.ofNat 0) = true := rfl
  have hix := idx9 (hp.put id (rd b (a + 1) 0)) b a c hc
  rw [call_own (fi := e50) rfl rfl, b50, run_succ, c50_eq]
  simp only [ev_seq, r50_0a, seqK_normal, r50_1a, nil_ptr, bP_some, fa52 _ _ _ (show 2 < 3 by decide), fa52 _ _ _ (show 1 < 3 by decide), fa52 _ _ _ (show 0 < 3 by decide), ld0 h, ld1 h, ld2 h, logLoad_v, bLg_some, primBin_eq, bin_int, int_neq, hz, Bool.not_true, ret1_some', want_ff, bWD_true, ranL_true,
    len9, int_geq, ofNat_ble, hb, pick_f, ev_cond, opd_tmp, alget, Nat.reduceEqDiff, reduceIte, bB_false, ev_skip, r50_4a, int_add64 a 1 (by omega), st1' h, r50_5a, ld0 h', ld1 h', int_sub64 (a + 1) 1 (by omega) (by omega), Nat.add_sub_cancel, hix,
    ev_ret, seqK_ret, endK_ret, z50a, consO_some, oneR_one, bQ_some]
end Go.Ev

/- Numbers read back. -/
namespace Go.Ev
open Go.Proofs

def digits (m z : Nat) : List UInt8 := (encInit m z ++ [encLast m z]).map UInt8.ofNat
def unzig (z : Nat) : Int := if z % 2 = 0 then .ofNat (z / 2) else .negSucc (z / 2)
theorem unzig_zig (n : Int) : unzig (zig n) = n := by
  cases n with
  | ofNat m => unfold unzig zig; simp
  | negSucc m => unfold unzig zig; simp only []; rw [if_neg (by omega)]; congr 1; omega
theorem and127 (d : Nat) : d &&& 127 = d % 128 := Nat.and_two_pow_sub_one_eq_mod d 7
theorem or_add (acc d j : Nat) (h : acc < 2 ^ j) : acc ||| (d * 2 ^ j) = acc + d * 2 ^ j := by
  have := Nat.two_pow_add_eq_or_of_lt h d
  rw [Nat.mul_comm d, Nat.or_comm, ← this]; omega
theorem cv_5_41 (hp : Hp) (n : Nat) (h : n < 256) : primConv tys hp 5 41 (some (u8 n)) = some (u64 n, hp) := by
  rw [cv hp 5 41 y5 y41 rfl rfl rfl rfl]
  show some (PV.v (.int .u64 (wrapq .u64 (.ofNat n))), hp) = _
  rw [wrapqU rfl, Nat.mod_eq_of_lt (by rw [npow64]; omega)]

theorem ipow64 : (2 : Int) ^ IntKind.i64.bits = 18446744073709551616 := by decide
theorem ipow63 : (2 : Int) ^ (IntKind.i64.bits - 1) = 9223372036854775808 := by decide
theorem wrapI_small (x : Nat) (h : x < 9223372036854775808) : IntKind.i64.wrap (.ofNat x) = .ofNat x := by
  have e : (Int.ofNat x) % 18446744073709551616 = Int.ofNat x := by rw [Int.ofNat_eq_natCast]; omega
  unfold IntKind.wrap
  simp only [ipow64, ipow63, e]
  rw [if_neg]
  simp only [Bool.and_eq_true, decide_eq_true_eq, not_and]
  intro _; rw [Int.ofNat_eq_natCast]; omega
theorem wrapI_big (x : Nat) (h : 9223372036854775808 ≤ x) (h2 : x < 18446744073709551616) : IntKind.i64.wrap (.ofNat x) = .negSucc (18446744073709551615 - x) := by
  have e : (Int.ofNat x) % 18446744073709551616 = Int.ofNat x := by rw [Int.ofNat_eq_natCast]; omega
  unfold IntKind.wrap
  simp only [ipow64, ipow63, e]
  rw [if_pos]
  · rw [Int.ofNat_eq_natCast]; omega
  · simp only [Bool.and_eq_true, decide_eq_true_eq]
    refine ⟨rfl, ?_⟩
    rw [Int.ofNat_eq_natCast]; omega
theorem bitsI_small (x : Nat) (h : x < 18446744073709551616) : bitsN .i64 (.ofNat x) = x := by
  unfold bitsN
  rw [ipow64, Int.ofNat_eq_natCast]; omega
theorem bitsI_m1 : bitsN .i64 (.negSucc 0) = 18446744073709551615 := by decide
theorem xor_all64 (x : Nat) (h : x < 18446744073709551616) : Nat.xor x 18446744073709551615 = 18446744073709551615 - x := by
  have h3 := congrArg BitVec.toNat (BitVec.xor_allOnes (x := BitVec.ofNat 64 x))
  rw [BitVec.toNat_xor, BitVec.toNat_not, BitVec.toNat_ofNat, BitVec.toNat_allOnes, Nat.mod_eq_of_lt (Nat.lt_of_lt_of_le h (by decide))] at h3
  have h4 : (2 : Nat) ^ 64 - 1 = 18446744073709551615 := by decide
  rw [h4] at h3
  exact h3
theorem xor64_0 (m : Nat) (h : m < 9223372036854775808) : intOp .xor .i64 .i64 (.ofNat m) (.ofNat 0) = some (.v (.int .i64 (.ofNat m))) := by
  rw [int_cmp .xor .i64 _ _ ⟨by simp, by simp⟩]
  have e : intBin .xor .i64 (.ofNat m) (.ofNat 0) = bitBin Nat.xor .i64 (.ofNat m) (.ofNat 0) := _root_.id rfl
  rw [e]
  unfold bitBin
  have hs : (Nat.blt m (2 ^ IntKind.i64.bits) && Nat.blt 0 (2 ^ IntKind.i64.bits) && !IntKind.i64.signed) = false := by simp [IntKind.signed]
  simp only [hs, bitGen, bitsI_small m (by omega), bitsI_small 0 (by omega)]
  have e2 : Nat.xor m 0 = m := Nat.xor_zero m
  rw [e2, wrapI_small m h]
theorem xor64_m1 (m : Nat) (h : m < 9223372036854775808) : intOp .xor .i64 .i64 (.ofNat m) (.negSucc 0) = some (.v (.int .i64 (.negSucc m))) := by
  rw [int_cmp .xor .i64 _ _ ⟨by simp, by simp⟩]
  have e : intBin .xor .i64 (.ofNat m) (.negSucc 0) = bitGen Nat.xor .i64 (.ofNat m) (.negSucc 0) := _root_.id rfl
  rw [e]
  unfold bitGen
  rw [bitsI_small m (by omega), bitsI_m1, xor_all64 m (by omega), wrapI_big _ (by omega) (by omega)]
  have e2 : 18446744073709551615 - (18446744073709551615 - m) = m := by omega
  rw [e2]
theorem cv_41_2 (hp : Hp) (n : Nat) (h : n < 9223372036854775808) : primConv tys hp 41 2 (some (u64 n)) = some (.v (.int .i64 (.ofNat n)), hp) := by
  rw [cv hp 41 2 y41 y2 rfl rfl rfl rfl]
  have e : y2.ik = .i64 := rfl
  rw [e, wrapq64 (by omega)]
theorem neg0 : una .neg (.v (.int .i64 (.ofNat 0))) = some (.v (.int .i64 (.ofNat 0))) := rfl
theorem neg1 : una .neg (.v (.int .i64 (.ofNat 1))) = some (.v (.int .i64 (.negSucc 0))) := rfl
theorem fin78 {R : Type} (call : CallK R) (rc : RC R) (x0 x4 x39 : PV) (hp : Hp) (z : Nat) (hz : z < 18446744073709551616) (k : Ex → St → Option R) :
    evC tys e78 r78_11 call rc ⟨[(0, x0), (3, u64 z), (4, x4), (39, x39)], hp⟩ k = k .normal ⟨[(2, .v (.int .i64 (unzig z)))], hp⟩ := by
  have h1 := int_andU .u64 rfl z 1 (by rw [npow64]; exact hz) (by rw [npow64]; decide)
  rw [and_one] at h1
  have h2 : z / 2 ^ 1 = z / 2 := rfl
  by_cases hp2 : z % 2 = 0
  · rw [hp2] at h1
    have hu : unzig z = .ofNat (z / 2) := if_pos hp2
    rw [hu]
    simp only [r78_11a, primBin_eq, bin_int, int_shr .u64 .u64 z 1 (by decide), h2, ret1_some', bP_some, cv_41_2 _ (z / 2) (by omega), h1, cv_41_2 _ 0 (by decide), primUn_eq, neg0, xor64_0 (z / 2) (by omega)]
  · have e : z % 2 = 1 := by omega
    rw [e] at h1
    have hu : unzig z = .negSucc (z / 2) := if_neg hp2
    rw [hu]
    simp only [r78_11a, primBin_eq, bin_int, int_shr .u64 .u64 z 1 (by decide), h2, ret1_some', bP_some, cv_41_2 _ (z / 2) (by omega), h1, cv_41_2 _ 1 (by decide), primUn_eq, neg1, xor64_m1 (z / 2) (by omega)]

/-- the test of a byte at its place -/
theorem test78 {R : Type} (call : CallK R) (rc : RC R) (x0 x3 : PV) (hp : Hp) (j d : Nat) (hj : j ≤ 9) (hz : 0 < j → d ≠ 0) (h9 : j = 9 → d ≤ 1) (k : Ex → St → Option R) :
    evC tys e78 r78_5 call rc ⟨[(0, x0), (3, x3), (4, i (7 * j)), (5, u8 d)], hp⟩ k = k .normal ⟨[(0, x0), (3, x3), (4, i (7 * j)), (5, u8 d), (23, bt false)], hp⟩ := by
  by_cases h : j = 9
  · have e1 : decide (7 * j = 63) = true := decide_eq_true (by omega)
    have e2 : decide (d ≤ 1) = true := decide_eq_true (h9 h)
    have e3 : decide (7 * j ≤ 0) = false := decide_eq_false (by omega)
    have e4 : decide (d = 0) = false := decide_eq_false (hz (by omega))
    simp only [r78_5a, primBin_eq, bin_int, int_eql, int_gtr, ieqb_nat, ileb_nat, e1, e2, e3, e4, ret1_some', bP_some, want_tt, want_ff, want_tf, want_ft, bW_true, bW_false, Bool.not_true, Bool.not_false, pick_t, pick_f, pick_tu, pick_fu]
  · have e1 : decide (7 * j = 63) = false := decide_eq_false (by omega)
    by_cases h0 : j = 0
    · have e3 : decide (7 * j ≤ 0) = true := decide_eq_true (by omega)
      simp only [r78_5a, primBin_eq, bin_int, int_eql, int_gtr, ieqb_nat, ileb_nat, e1, e3, ret1_some', bP_some, want_tt, want_ff, want_tf, want_ft, bW_true, bW_false, Bool.not_true, Bool.not_false, pick_t, pick_f, pick_tu, pick_fu]
    · have e3 : decide (7 * j ≤ 0) = false := decide_eq_false (by omega)
      have e4 : decide (d = 0) = false := decide_eq_false (hz (by omega))
      simp only [r78_5a, primBin_eq, bin_int, int_eql, int_gtr, ieqb_nat, ileb_nat, e1, e3, e4, ret1_some', bP_some, want_tt, want_ff, want_tf, want_ft, bW_true, bW_false, Bool.not_true, Bool.not_false, pick_t, pick_f, pick_tu, pick_fu]

theorem step78 (O : Orc) {R : Type} (n : Nat) {hp : Hp} {id a : Nat} {b : List UInt8} {c : UInt8} (h : hp.get id = some (rd b a 0)) (hc : b[a]? = some c) (hl : b.length ≤ 1000000)
    (j acc d : Nat) (hd : c.toNat = d) (hj : j ≤ 9) (hacc : acc < 2 ^ (7 * j)) (hfit : acc + d % 128 * 2 ^ (7 * j) < 18446744073709551616) (hz : 0 < j → d ≠ 0) (h9 : j = 9 → d ≤ 1) (k : Ex → St → Option R) :
    evC tys e78 l78_0 (callF tys fns O (run tys fns O (n + 1))) (run tys fns O (n + 1)) ⟨[(0, .ptr id 0), (3, u64 acc), (4, i (7 * j))], hp⟩ k =
      if d < 128 then k .ret ⟨[(2, .v (.int .i64 (unzig (acc + d % 128 * 2 ^ (7 * j)))))], hp.put id (rd b (a + 1) 0)⟩
      else evC tys e78 l78_0 (callF tys fns O (run tys fns O n)) (run tys fns O n) ⟨[(0, .ptr id 0), (3, u64 (acc + d % 128 * 2 ^ (7 * j))), (4, i (7 * (j + 1)))], hp.put id (rd b (a + 1) 0)⟩ k := by
  have hn := next46 O (R := R) n h hc hl
  rw [hd] at hn
  have hd8 : d < 256 := by rw [← hd]; exact c.toNat_lt
  have h' := get_put hp id (rd b (a + 1) 0) _ h
  have hz0 : ieqb (.ofNat 0) (.ofNat 0) = true := rfl
  have ht := fun (hp : Hp) (x0 x3 : PV) (call : CallK R) (rc : RC R) => test78 call rc x0 x3 hp j d hj hz h9
  have hand := int_andU .u8 rfl d 127 (by rw [npow8]; exact hd8) (by rw [npow8]; decide)
  rw [and127] at hand
  have hm : d % 128 < 256 := by omega
  have hpw : d % 128 * 2 ^ (7 * j) < 18446744073709551616 := by omega
  have hshl := int_shlU .u64 .i64 rfl (d % 128) (7 * j) (by show 7 * j ≤ 64; omega)
  rw [npow64, Nat.mod_eq_of_lt hpw] at hshl
  have hor := int_orU .u64 rfl acc (d % 128 * 2 ^ (7 * j)) (by rw [npow64]; omega) (by rw [npow64]; exact hpw)
  rw [or_add _ _ _ hacc] at hor
  have hadd := int_add64 (7 * j) 7 (by omega)
  rw [show 7 * j + 7 = 7 * (j + 1) by omega] at hadd
  rw [l78_0_eq]
  by_cases hd7 : d < 128
  · have e1 : decide (128 ≤ d) = false := decide_eq_false (by omega)
    rw [if_pos hd7]
    simp only [ev_loop, ev_seq, ev_block, r78_4a, hn, seqK_normal, ht, ev_cond, opd_tmp, alget, Nat.reduceEqDiff, reduceIte, bB_false, ev_skip, r78_7a, r78_7b, nil_ptr, bP_some, fa46 _ _ _ (show 2 < 3 by decide), ld2 h', primBin_eq, bin_int, int_neq, hz0, Bool.not_true, ret1_some',
      r78_9a, hand, cv_5_41 _ _ hm, hshl, hor, r78_10a, int_lss, ileb_nat, e1, Bool.not_false, bB_true, fin78 _ _ _ _ _ _ _ hfit, ev_ret, seqK_ret, blockK_ret]
  · have e1 : decide (128 ≤ d) = true := decide_eq_true (by omega)
    rw [if_neg hd7]
    simp only [ev_loop, ev_seq, ev_block, r78_4a, hn, seqK_normal, ht, ev_cond, opd_tmp, alget, Nat.reduceEqDiff, reduceIte, bB_false, ev_skip, r78_7a, r78_7b, nil_ptr, bP_some, fa46 _ _ _ (show 2 < 3 by decide), ld2 h', primBin_eq, bin_int, int_neq, hz0, Bool.not_true, ret1_some',
      r78_9a, hand, cv_5_41 _ _ hm, hshl, hor, r78_10a, int_lss, ileb_nat, e1, Bool.not_false, bB_true, blockK_normal, r78_3a, hadd, run_succ]
end Go.Ev

/- Numbers read back: all their bytes, by the program and by the reference. -/
namespace Go.Ev
open Go.Proofs

theorem digits_zero (z : Nat) : digits 0 z = [UInt8.ofNat z] := rfl
theorem digits_small (m z : Nat) (h : z < 128) : digits m z = [UInt8.ofNat z] := by
  cases m with
  | zero => rfl
  | succ m => unfold digits encInit encLast; simp [h]
theorem digits_big (m z : Nat) (h : ¬ z < 128) : digits (m + 1) z = UInt8.ofNat (z % 128 + 128) :: digits m (z / 128) := by
  unfold digits
  conv => lhs; unfold encInit encLast
  simp [h]
theorem toNat_ofNat8 (d : Nat) (h : d < 256) : (UInt8.ofNat d).toNat = d := by
  rw [UInt8.toNat_ofNat']; exact Nat.mod_eq_of_lt h
theorem drop_cons {b : List UInt8} {a : Nat} {c : UInt8} {l : List UInt8} (h : b.drop a = c :: l) : b[a]? = some c ∧ b.drop (a + 1) = l := by
  have h1 : (b.drop a)[0]? = some c := by rw [h]; rfl
  rw [List.getElem?_drop] at h1
  refine ⟨by simpa using h1, ?_⟩
  have h2 : (b.drop a).drop 1 = l := by rw [h]; rfl
  rw [List.drop_drop] at h2
  first | exact h2 | (rw [Nat.add_comm] at h2; exact h2)
theorem drop_nil_len {b : List UInt8} {a : Nat} (h : b.drop a = []) (ha : a ≤ b.length) : a = b.length := by
  have := congrArg List.length h
  simp at this; omega
theorem pow7 (j : Nat) : 2 ^ (7 * (j + 1)) = 128 * 2 ^ (7 * j) := by
  rw [show 7 * (j + 1) = 7 * j + 7 by omega, Nat.pow_add]; omega

theorem arith_step (acc z j : Nat) (hacc : acc < 2 ^ (7 * j)) (hfit : acc + z * 2 ^ (7 * j) < 18446744073709551616) :
    acc + (z % 128 + 128) % 128 * 2 ^ (7 * j) < 2 ^ (7 * (j + 1)) ∧ acc + (z % 128 + 128) % 128 * 2 ^ (7 * j) + z / 128 * 2 ^ (7 * (j + 1)) = acc + z * 2 ^ (7 * j) ∧ acc + (z % 128 + 128) % 128 * 2 ^ (7 * j) < 18446744073709551616 := by
  have e : (z % 128 + 128) % 128 = z % 128 := by omega
  rw [e, pow7]
  generalize hp : 2 ^ (7 * j) = p at *
  have hz : z * p = z % 128 * p + z / 128 * (128 * p) := by
    have h2 : z % 128 * p + z / 128 * (128 * p) = (z % 128 + 128 * (z / 128)) * p := by
      rw [Nat.add_mul, ← Nat.mul_assoc, Nat.mul_comm (z / 128) 128]
    rw [h2, Nat.mod_add_div]
  have h127 : z % 128 * p ≤ 127 * p := Nat.mul_le_mul_right _ (by omega)
  refine ⟨by omega, by omega, ?_⟩
  have := Nat.zero_le (z / 128 * (128 * p))
  omega
theorem last_fit (acc z : Nat) (h : acc + z * 2 ^ (7 * 9) < 18446744073709551616) : z ≤ 1 := by
  have e : 2 ^ (7 * 9) = 9223372036854775808 := by decide
  rw [e] at h; omega

theorem read78 (O : Orc) {R : Type} {b : List UInt8} (hl : b.length ≤ 1000000) {id : Nat} (k : Ex → St → Option R) : ∀ (m n j a acc z : Nat) (hp : Hp), m + j = 9 → z < 128 ^ (m + 1) → acc < 2 ^ (7 * j) → acc + z * 2 ^ (7 * j) < 18446744073709551616 → (0 < j → z ≠ 0) →
    a ≤ b.length → b.drop a = digits m z → hp.get id = some (rd b a 0) →
    evC tys e78 l78_0 (callF tys fns O (run tys fns O (n + m + 1))) (run tys fns O (n + m + 1)) ⟨[(0, .ptr id 0), (3, u64 acc), (4, i (7 * j))], hp⟩ k =
      k .ret ⟨[(2, .v (.int .i64 (unzig (acc + z * 2 ^ (7 * j)))))], hp.put id (rd b b.length 0)⟩ := by
  intro m
  induction m with
  | zero =>
    intro n j a acc z hp hj hz hacc hfit hz0 ha hd hg
    have hj : j = 9 := by omega
    subst hj
    have hz1 := last_fit acc z hfit
    rw [digits_zero] at hd
    obtain ⟨h1, h2⟩ := drop_cons hd
    have ha' : a + 1 = b.length := drop_nil_len h2 (by have := (List.getElem?_eq_some_iff.1 h1).1; omega)
    have em : z % 128 = z := by omega
    have hs := step78 O (R := R) (n + 0) hg h1 hl 9 acc z (toNat_ofNat8 z (by omega)) (by decide) hacc (by rw [em]; exact hfit) hz0 (fun _ => hz1) k
    rw [hs, if_pos (by omega), em, ha']
  | succ m ih =>
    intro n j a acc z hp hj hz hacc hfit hz0 ha hd hg
    by_cases hlt : z < 128
    · rw [digits_small _ _ hlt] at hd
      obtain ⟨h1, h2⟩ := drop_cons hd
      have ha' : a + 1 = b.length := drop_nil_len h2 (by have := (List.getElem?_eq_some_iff.1 h1).1; omega)
      have em : z % 128 = z := by omega
      have hs := step78 O (R := R) (n + (m + 1)) hg h1 hl j acc z (toNat_ofNat8 z (by omega)) (by omega) hacc (by rw [em]; exact hfit) hz0 (fun h => by omega) k
      rw [hs, if_pos hlt, em, ha']
    · rw [digits_big _ _ hlt] at hd
      obtain ⟨h1, h2⟩ := drop_cons hd
      obtain ⟨q1, q2, q3⟩ := arith_step acc z j hacc hfit
      have hs := step78 O (R := R) (n + (m + 1)) hg h1 hl j acc (z % 128 + 128) (toNat_ofNat8 _ (by omega)) (by omega) hacc q3 (fun _ => by omega) (fun h => by omega) k
      have hz1 : z / 128 < 128 ^ (m + 1) := by
        rw [Nat.div_lt_iff_lt_mul (by decide)]
        rw [Nat.pow_succ] at hz; exact hz
      have hi := ih n (j + 1) (a + 1) (acc + (z % 128 + 128) % 128 * 2 ^ (7 * j)) (z / 128) (hp.put id (rd b (a + 1) 0)) (by omega) hz1 q1 (by rw [q2]; exact hfit) (fun _ => by omega)
        (by have := (List.getElem?_eq_some_iff.1 h1).1; omega) h2 (get_put hp id _ _ hg)
      rw [hs, if_neg (by omega), show n + (m + 1) = n + m + 1 by omega, hi, q2, put_put]

theorem zig_lt {n : Int} (h : -9223372036854775808 ≤ n ∧ n < 9223372036854775808) : zig n < 18446744073709551616 := by
  cases n with
  | ofNat m => unfold zig; simp only []; rw [Int.ofNat_eq_natCast] at h; omega
  | negSucc m => unfold zig; simp only []; omega

theorem int78 (O : Orc) {R : Type} {b : List UInt8} (hl : b.length ≤ 1000000) {id a : Nat} {x : Int} (hx : -9223372036854775808 ≤ x ∧ x < 9223372036854775808) (n : Nat) (hp : Hp) (ha : a ≤ b.length) (hd : b.drop a = enc x) (hg : hp.get id = some (rd b a 0)) (k : PV → Hp → Option R) :
    callF tys fns O (run tys fns O (n + 11)) 78 [.ptr id 0] hp k = k (.v (.int .i64 x)) (hp.put id (rd b b.length 0)) := by
  have hz := zig_lt hx
  have hr := fun k => read78 O (R := R) hl (id := id) k 9 n 0 a 0 (zig x) hp (by omega) (by omega) (by decide) (by simpa using hz) (fun h => absurd h (by decide)) ha hd hg
  have e : 0 + zig x * 2 ^ (7 * 0) = zig x := by simp
  rw [e, unzig_zig] at hr
  rw [call_own (fi := e78) rfl rfl, b78, show n + 11 = (n + 9 + 1) + 1 by omega, run_succ, c78_eq]
  simp only [ev_seq, r78_0a, r78_1a, r78_2a, seqK_normal, ev_block]
  rw [show (i 0) = i (7 * 0) from rfl, hr]
  simp only [blockK_ret, seqK_ret, endK_ret, z78a, consO_some, oneR_one, bQ_some]
end Go.Ev

/- Numbers read back by the reference. -/
namespace Go.Ev
open Go.Proofs

theorem test29 {R : Type} (call : CallK R) (rc : RC R) (x0 x3 x16 : PV) (hp : Hp) (j d : Nat) (hj : j ≤ 9) (hz : 0 < j → d ≠ 0) (h9 : j = 9 → d ≤ 1) (k : Ex → St → Option R) :
    evC tys e29 r29_8 call rc ⟨[(0, x0), (3, x3), (4, u64 j), (5, u8 d), (16, x16)], hp⟩ k = k .normal ⟨[(0, x0), (3, x3), (4, u64 j), (5, u8 d), (30, bt false)], hp⟩ := by
  by_cases h : j = 9
  · have e1 : decide (j = 9) = true := decide_eq_true h
    have e2 : decide (d ≤ 1) = true := decide_eq_true (h9 h)
    have e4 : decide (d = 0) = false := decide_eq_false (hz (by omega))
    simp only [r29_8a, primBin_eq, bin_int, int_eql, int_gtr, ieqb_nat, ileb_nat, e1, e2, e4, ret1_some', bP_some, want_tt, want_ff, want_tf, want_ft, bW_true, bW_false, Bool.not_true, Bool.not_false, pick_t, pick_f, pick_tu, pick_fu]
  · have e1 : decide (j = 9) = false := decide_eq_false h
    by_cases h0 : d = 0
    · have hj0 : j = 0 := by
        by_cases g : j = 0
        · exact g
        · exact absurd h0 (hz (by omega))
      have e4 : decide (d = 0) = true := decide_eq_true h0
      have e5 : decide (j ≤ 0) = true := decide_eq_true (by omega)
      simp only [r29_8a, primBin_eq, bin_int, int_eql, int_gtr, ieqb_nat, ileb_nat, e1, e4, e5, ret1_some', bP_some, want_tt, want_ff, want_tf, want_ft, bW_true, bW_false, Bool.not_true, Bool.not_false, pick_t, pick_f, pick_tu, pick_fu]
    · have e4 : decide (d = 0) = false := decide_eq_false h0
      simp only [r29_8a, primBin_eq, bin_int, int_eql, int_gtr, ieqb_nat, ileb_nat, e1, e4, ret1_some', bP_some, want_tt, want_ff, want_tf, want_ft, bW_true, bW_false, Bool.not_true, Bool.not_false, pick_t, pick_f, pick_tu, pick_fu]

theorem mul7 (j : Nat) (hj : j ≤ 9) : intOp .mul .u64 .u64 (.ofNat 7) (.ofNat j) = some (.v (.int .u64 (.ofNat (7 * j)))) := by
  show some (PV.v (.int .u64 (wrapq .u64 (Int.ofNat 7 * Int.ofNat j)))) = _
  have e : Int.ofNat 7 * Int.ofNat j = Int.ofNat (7 * j) := rfl
  rw [e, wrapqU rfl, Nat.mod_eq_of_lt (by rw [npow64]; omega)]
theorem step29 (O : Orc) {R : Type} (n : Nat) {hp : Hp} {id a : Nat} {b : List UInt8} {c : UInt8} (h : hp.get id = some (rd b a 0)) (hc : b[a]? = some c) (hl : b.length ≤ 1000000)
    (j acc d : Nat) (hd : c.toNat = d) (hj : j ≤ 9) (hacc : acc < 2 ^ (7 * j)) (hfit : acc + d % 128 * 2 ^ (7 * j) < 18446744073709551616) (hz : 0 < j → d ≠ 0) (h9 : j = 9 → d ≤ 1) (k : Ex → St → Option R) :
    evC tys e29 l29_0 (callF tys fns O (run tys fns O (n + 1))) (run tys fns O (n + 1)) ⟨[(0, .ptr id 0), (3, u64 acc), (4, u64 j)], hp⟩ k =
      if d < 128 then k (.exit 0) ⟨[(0, .ptr id 0), (3, u64 (acc + d % 128 * 2 ^ (7 * j))), (4, u64 j), (42, bt true)], hp.put id (rd b (a + 1) 0)⟩
      else evC tys e29 l29_0 (callF tys fns O (run tys fns O n)) (run tys fns O n) ⟨[(0, .ptr id 0), (3, u64 (acc + d % 128 * 2 ^ (7 * j))), (4, u64 (j + 1))], hp.put id (rd b (a + 1) 0)⟩ k := by
  have hn := one50 O (R := R) n h hc hl
  rw [hd] at hn
  have hd8 : d < 256 := by rw [← hd]; exact c.toNat_lt
  have h' := get_put hp id (rd b (a + 1) 0) _ h
  have hz0 : ieqb (.ofNat 0) (.ofNat 0) = true := rfl
  have ht := fun (hp : Hp) (x0 x3 x16 : PV) (call : CallK R) (rc : RC R) => test29 call rc x0 x3 x16 hp j d hj hz h9
  have hrem := int_rem .u8 d 128 (by decide)
  have hm : d % 128 < 256 := by omega
  have hpw : d % 128 * 2 ^ (7 * j) < 18446744073709551616 := by omega
  have hshl := int_shlU .u64 .u64 rfl (d % 128) (7 * j) (by show 7 * j ≤ 64; omega)
  rw [npow64, Nat.mod_eq_of_lt hpw] at hshl
  have hor := int_orU .u64 rfl acc (d % 128 * 2 ^ (7 * j)) (by rw [npow64]; omega) (by rw [npow64]; exact hpw)
  rw [or_add _ _ _ hacc] at hor
  have hadd := int_addU .u64 rfl j 1
  rw [npow64, Nat.mod_eq_of_lt (show j + 1 < 18446744073709551616 by omega)] at hadd
  have e10 : decide (10 ≤ j) = false := decide_eq_false (by omega)
  rw [l29_0_eq]
  by_cases hd7 : d < 128
  · have e1 : decide (128 ≤ d) = false := decide_eq_false (by omega)
    rw [if_pos hd7]
    simp only [ev_loop, ev_seq, ev_block, r29_3a, primBin_eq, bin_int, int_lss, ileb_nat, e10, Bool.not_false, ret1_some', bP_some, seqK_normal, ev_cond, opd_tmp, alget, Nat.reduceEqDiff, reduceIte, bB_true, ev_skip, r29_5a, hn, r29_6a, nil_ptr, fa52 _ _ _ (show 2 < 3 by decide), ld2 h', int_neq, hz0, Bool.not_true, bB_false, ht,
      r29_11a, hrem, cv_5_41 _ _ hm, mul7 j hj, hshl, hor, r29_12a, e1, ev_exit, seqK_exit, blockK_at]
  · have e1 : decide (128 ≤ d) = true := decide_eq_true (by omega)
    rw [if_neg hd7]
    simp only [ev_loop, ev_seq, ev_block, r29_3a, primBin_eq, bin_int, int_lss, ileb_nat, e10, Bool.not_false, ret1_some', bP_some, seqK_normal, ev_cond, opd_tmp, alget, Nat.reduceEqDiff, reduceIte, bB_true, ev_skip, r29_5a, hn, r29_6a, nil_ptr, fa52 _ _ _ (show 2 < 3 by decide), ld2 h', int_neq, hz0, Bool.not_true, bB_false, ht,
      r29_11a, hrem, cv_5_41 _ _ hm, mul7 j hj, hshl, hor, r29_12a, e1, blockK_normal, r29_4a, hadd, run_succ]

theorem read29 (O : Orc) {R : Type} {b : List UInt8} (hl : b.length ≤ 1000000) {id : Nat} (k : Ex → St → Option R) : ∀ (m n j a acc z : Nat) (hp : Hp), m + j = 9 → z < 128 ^ (m + 1) → acc < 2 ^ (7 * j) → acc + z * 2 ^ (7 * j) < 18446744073709551616 → (0 < j → z ≠ 0) →
    a ≤ b.length → b.drop a = digits m z → hp.get id = some (rd b a 0) →
    ∃ j', evC tys e29 l29_0 (callF tys fns O (run tys fns O (n + m + 1))) (run tys fns O (n + m + 1)) ⟨[(0, .ptr id 0), (3, u64 acc), (4, u64 j)], hp⟩ k =
      k (.exit 0) ⟨[(0, .ptr id 0), (3, u64 (acc + z * 2 ^ (7 * j))), (4, u64 j'), (42, bt true)], hp.put id (rd b b.length 0)⟩ := by
  intro m
  induction m with
  | zero =>
    intro n j a acc z hp hj hz hacc hfit hz0 ha hd hg
    have hj : j = 9 := by omega
    subst hj
    have hz1 := last_fit acc z hfit
    rw [digits_zero] at hd
    obtain ⟨h1, h2⟩ := drop_cons hd
    have ha' : a + 1 = b.length := drop_nil_len h2 (by have := (List.getElem?_eq_some_iff.1 h1).1; omega)
    have em : z % 128 = z := by omega
    have hs := step29 O (R := R) (n + 0) hg h1 hl 9 acc z (toNat_ofNat8 z (by omega)) (by decide) hacc (by rw [em]; exact hfit) hz0 (fun _ => hz1) k
    exact ⟨9, by rw [hs, if_pos (by omega), em, ha']⟩
  | succ m ih =>
    intro n j a acc z hp hj hz hacc hfit hz0 ha hd hg
    by_cases hlt : z < 128
    · rw [digits_small _ _ hlt] at hd
      obtain ⟨h1, h2⟩ := drop_cons hd
      have ha' : a + 1 = b.length := drop_nil_len h2 (by have := (List.getElem?_eq_some_iff.1 h1).1; omega)
      have em : z % 128 = z := by omega
      have hs := step29 O (R := R) (n + (m + 1)) hg h1 hl j acc z (toNat_ofNat8 z (by omega)) (by omega) hacc (by rw [em]; exact hfit) hz0 (fun h => by omega) k
      exact ⟨j, by rw [show n + (m + 1) + 1 = n + (m + 1) + 1 from rfl, hs, if_pos hlt, em, ha']⟩
    · rw [digits_big _ _ hlt] at hd
      obtain ⟨h1, h2⟩ := drop_cons hd
      obtain ⟨q1, q2, q3⟩ := arith_step acc z j hacc hfit
      have hs := step29 O (R := R) (n + (m + 1)) hg h1 hl j acc (z % 128 + 128) (toNat_ofNat8 _ (by omega)) (by omega) hacc q3 (fun _ => by omega) (fun h => by omega) k
      have hz1 : z / 128 < 128 ^ (m + 1) := by
        rw [Nat.div_lt_iff_lt_mul (by decide)]
        rw [Nat.pow_succ] at hz; exact hz
      obtain ⟨j', hi⟩ := ih n (j + 1) (a + 1) (acc + (z % 128 + 128) % 128 * 2 ^ (7 * j)) (z / 128) (hp.put id (rd b (a + 1) 0)) (by omega) hz1 q1 (by rw [q2]; exact hfit) (fun _ => by omega)
        (by have := (List.getElem?_eq_some_iff.1 h1).1; omega) h2 (get_put hp id _ _ hg)
      exact ⟨j', by rw [hs, if_neg (by omega), show n + (m + 1) = n + m + 1 by omega, hi, q2, put_put]⟩

theorem cv_41_2_big (hp : Hp) (m : Nat) (h : m < 9223372036854775808) : primConv tys hp 41 2 (some (u64 (18446744073709551615 - m))) = some (.v (.int .i64 (.negSucc m)), hp) := by
  rw [cv hp 41 2 y41 y2 rfl rfl rfl rfl]
  have e : y2.ik = .i64 := rfl
  obtain ⟨q, hq⟩ : ∃ q, q = 18446744073709551615 - m := ⟨_, rfl⟩
  rw [e, ← hq]
  have hw : wrapq .i64 (.ofNat q) = IntKind.i64.wrap (.ofNat q) := by
    show (match Nat.ble q 9223372036854775807 with | true => Int.ofNat q | false => IntKind.i64.wrap (.ofNat q)) = _
    have : Nat.ble q 9223372036854775807 = false := by rw [Bool.eq_false_iff]; intro e; have := Nat.le_of_ble_eq_true e; omega
    rw [this]
  rw [hw, wrapI_big q (by omega) (by omega)]
  have e2 : 18446744073709551615 - q = m := by omega
  rw [e2]

theorem int29 (O : Orc) {R : Type} {b : List UInt8} (hl : b.length ≤ 1000000) {id a : Nat} {x : Int} (hx : -9223372036854775808 ≤ x ∧ x < 9223372036854775808) (n : Nat) (hp : Hp) (ha : a ≤ b.length) (hd : b.drop a = enc x) (hg : hp.get id = some (rd b a 0)) (k : PV → Hp → Option R) :
    callF tys fns O (run tys fns O (n + 11)) 29 [.ptr id 0] hp k = k (.v (.int .i64 x)) (hp.put id (rd b b.length 0)) := by
  have hz := zig_lt hx
  have hr := fun k => read29 O (R := R) hl (id := id) k 9 n 0 a 0 (zig x) hp (by omega) (by omega) (by decide) (by simpa using hz) (fun h => absurd h (by decide)) ha hd hg
  have e : 0 + zig x * 2 ^ (7 * 0) = zig x := by simp
  rw [call_own (fi := e29) rfl rfl, b29, show n + 11 = (n + 9 + 1) + 1 by omega, run_succ, c29_eq]
  simp only [ev_seq, r29_0a, r29_1a, r29_2a, seqK_normal, ev_block]
  obtain ⟨j', hr⟩ := hr _
  rw [hr, e]
  have hrem := int_rem .u64 (zig x) 2 (by decide)
  have h2 : zig x / 2 ^ 1 = zig x / 2 := rfl
  have hu := unzig_zig x
  by_cases hp2 : zig x % 2 = 0
  · have e1 : ieqb (.ofNat (zig x % 2)) (.ofNat 1) = false := by rw [hp2]; rfl
    have hux : x = .ofNat (zig x / 2) := hu.symm.trans (if_pos hp2)
    have hc := fun hp => cv_41_2 hp (zig x / 2) (by omega)
    rw [← hux] at hc
    simp only [blockK_at, reduceIte, seqK_normal, ev_seq, r29_13b, primBin_eq, bin_int, hrem, ret1_some', bP_some, int_eql, e1, ev_cond, opd_tmp, alget, Nat.reduceEqDiff, bB_false, ev_skip, r29_15a, int_shr .u64 .u64 (zig x) 1 (by decide), h2, hc, ev_ret, blockK_ret, seqK_ret, endK_ret, z29a, consO_some, oneR_one, bQ_some]
  · have e0 : zig x % 2 = 1 := by omega
    have e1 : ieqb (.ofNat (zig x % 2)) (.ofNat 1) = true := by rw [e0]; rfl
    have hux : x = .negSucc (zig x / 2) := hu.symm.trans (if_neg hp2)
    have hc := fun hp => cv_41_2_big hp (zig x / 2) (by omega)
    rw [← hux] at hc
    have hn := una_not64 (zig x / 2) (by omega)
    simp only [blockK_at, reduceIte, seqK_normal, ev_seq, r29_13b, primBin_eq, bin_int, hrem, ret1_some', bP_some, int_eql, e1, ev_cond, opd_tmp, alget, Nat.reduceEqDiff, bB_true, ev_skip, r29_14a, int_shr .u64 .u64 (zig x) 1 (by decide), h2, primUn_eq, hn, hc, ev_ret, blockK_ret, seqK_ret, endK_ret, z29a, consO_some, oneR_one, bQ_some]
end Go.Ev
