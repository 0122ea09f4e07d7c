/- Integer: a number's bytes. -/
import Derived.Test.YtaedechkfmjcnaaGreatDoorEvSym
import Derived.Test.YtaedechkfmjcnaaGreatDoorEvReg
set_option linter.all false
/- Integer: a number's bytes. -/
namespace Go.Ev
open Go.Proofs

theorem sl40 : SlT tys 40 1 1 := ⟨⟨y40, y5, rfl, rfl, rfl, rfl, rfl, rfl⟩, by decide, by decide⟩
theorem cv (hp : Hp) (s d : Nat) (si di : TyI) (hs : tys.get s = some si) (hd : tys.get d = some di) (h1 : si.kind = 6) (h2 : di.kind = 6) (k : IntKind) (n : Int) :
    primConv tys hp s d (some (.v (.int k n))) = some (.v (.int di.ik (wrapq di.ik n)), hp) := conv_int_eq hs hd h1 h2 k n
theorem cv_41_5 (hp : Hp) (k : IntKind) (n : Nat) : primConv tys hp 41 5 (some (.v (.int k (.ofNat n)))) = some (.v (.int .u8 (.ofNat (n % 256))), hp) := by
  rw [cv hp 41 5 y41 y5 rfl rfl rfl rfl]
  show some (PV.v (.int .u8 (wrapq .u8 (.ofNat n))), hp) = _
  rw [wrapqU rfl]; rfl
abbrev u8 (n : Nat) : PV := .v (.int .u8 (.ofNat n))
abbrev u32 (n : Nat) : PV := .v (.int .u32 (.ofNat n))
abbrev u64 (n : Nat) : PV := .v (.int .u64 (.ofNat n))
abbrev bt (b : Bool) : PV := .v (.bool b)
abbrev bstr (l : List UInt8) : PV := .v (.string ⟨⟨l⟩⟩)

def encInit : Nat → Nat → List Nat
  | 0, _ => []
  | m + 1, z => if z < 128 then [] else (z % 128 + 128) :: encInit m (z / 128)
def encLast : Nat → Nat → Nat
  | 0, z => z
  | m + 1, z => if z < 128 then z else encLast m (z / 128)

theorem mkRow40 (hp : Hp) (p : PV) (hc : pvCells p = some [p]) : primBuildSlice tys hp 40 1 (some [(0, p)]) = some (.row hp.next 0 1 1 1, hp.new ⟨[p], 1, false, 0⟩) := by
  have h1 : tys.get 40 = some y40 := rfl
  have h2 : tys.get 5 = some y5 := rfl
  unfold primBuildSlice
  simp only [h1]
  show buildSliceOf tys hp y40 1 [(0, p)] = _
  unfold buildSliceOf
  show (match tys.get 5 with | none => none | some ei => _) = _
  simp only [h2]
  show rowOf hp 1 1 (fillP (placeA 1) (rep [.int .u8 (.ofNat 0)] 1) [(0, p)]) = _
  unfold fillP
  simp only [placeA, hc]
  rfl


theorem opd_tmp (t : Nat) (tm : Tm) : opd (.tmp t) tm = Al.get tm t := _root_.id rfl

set_option maxHeartbeats 1000000 in
theorem loop5 (O : Orc) {R : Type} : ∀ (m n z : Nat) (x : PV) (hp : Hp) (es : List (List PV)), z < 128 ^ (m + 1) → z < 2 ^ 64 → AccS 1 hp x es → es.length + m ≤ 20 →
    ∃ hp' x', (∀ k : Ex → St → Option R, evC tys e5 l5_0 (callF tys fns O (run tys fns O (n + m))) (run tys fns O (n + m)) ⟨[(3, u64 z), (4, x)], hp⟩ k =
      k (.exit 0) ⟨[(3, u64 (encLast m z)), (4, x'), (13, bt false)], hp'⟩) ∧ AccS 1 hp' x' (es ++ (encInit m z).map fun b => [u8 b]) := by
  intro m
  induction m with
  | zero =>
    intro n z x hp es hz hz2 ha hl
    refine ⟨hp, x, fun k => ?_, by simpa [encInit] using ha⟩
    have hlt : Nat.ble 128 z = false := by rw [Bool.eq_false_iff]; intro e; have := Nat.le_of_ble_eq_true e; omega
    simp only [l5_0_eq, ev_loop, ev_seq, r5_5a, primBin_eq, bin_int, int_geq, ofNat_ble, hlt, ret1_some', bP_some, seqK_normal, ev_cond, opd_tmp, encLast]
    rfl
  | succ m ih =>
    intro n z x hp es hz hz2 ha hl
    by_cases hlt : z < 128
    · refine ⟨hp, x, fun k => ?_, by simpa [encInit, hlt] using ha⟩
      have hlt' : Nat.ble 128 z = false := by rw [Bool.eq_false_iff]; intro e; have := Nat.le_of_ble_eq_true e; omega
      simp only [l5_0_eq, ev_loop, ev_seq, r5_5a, primBin_eq, bin_int, int_geq, ofNat_ble, hlt', ret1_some', bP_some, seqK_normal, ev_cond, opd_tmp, encLast, if_pos hlt]
      rfl
    · have hge : Nat.ble 128 z = true := Nat.ble_eq_true_of_le (by omega)
      have hb : z % 128 + 128 < 256 := by omega
      obtain ⟨x1, hp1, h1, h2, h3, _⟩ := ha.app sl40 (e := [u8 (z % 128 + 128)]) rfl (by omega)
      have hz1 : z / 128 < 128 ^ (m + 1) := by
        rw [Nat.div_lt_iff_lt_mul (by decide)]
        rw [Nat.pow_succ] at hz; exact hz
      obtain ⟨hp2, x2, g1, g2⟩ := ih n (z / 128) x1 hp1 _ hz1 (by omega) h2 (by simp; omega)
      refine ⟨hp2, x2, fun k => ?_, by simpa [encInit, hlt] using g2⟩
      have e1 : z % 128 % 256 = z % 128 := by omega
      have e2 : (z % 128 + 128) % 2 ^ IntKind.u8.bits = z % 128 + 128 := by
        show (z % 128 + 128) % 256 = _; omega
      have hcells : pvCells (u8 (z % 128 + 128)) = some [u8 (z % 128 + 128)] := rfl
      simp only [l5_0_eq, ev_loop, ev_seq, r5_5a, r5_6a, r5_7a, primBin_eq, bin_int, int_geq, ofNat_ble, hge, ret1_some', bP_some, seqK_normal, ev_cond, opd_tmp, encLast, if_neg hlt,
        alget, Nat.reduceEqDiff, reduceIte, bB_true, ev_skip, ev_block, int_rem .u64 z 128 (by decide), cv_41_5, e1, int_addU .u8 rfl, e2, mkRow40 _ _ hcells, prim2, h1, blockK_normal, int_quo .u64 rfl z 128 (by decide) hz2]
      exact g1 k
end Go.Ev
namespace Go.Ev
open Go.Proofs
theorem frz1 (hp : Hp) (x : Value) : freezeL deepN hp [.v x] = some ([.v x], hp) := _root_.id rfl
theorem frz0 (hp : Hp) (x : Value) : freeze deepN hp (.v x) = some (.v x, hp) := _root_.id rfl
/-- a number's turns -/
def zig : Int → Nat
  | .ofNat m => 2 * m
  | .negSucc m => 2 * m + 1
def enc (n : Int) : List UInt8 := (encInit 9 (zig n) ++ [encLast 9 (zig n)]).map UInt8.ofNat

theorem encLast_lt : ∀ (m z : Nat), z < 128 ^ (m + 1) → encLast m z < 128
  | 0, z, h => by simpa [encLast] using h
  | m + 1, z, h => by
    unfold encLast
    split
    · assumption
    · refine encLast_lt m (z / 128) ?_
      rw [Nat.div_lt_iff_lt_mul (by decide)]
      rw [Nat.pow_succ] at h; exact h
theorem encInit_len : ∀ (m z : Nat), (encInit m z).length ≤ m
  | 0, z => by simp [encInit]
  | m + 1, z => by
    unfold encInit
    split
    · simp
    · have := encInit_len m (z / 128); simp; omega

theorem cv_2_41 (hp : Hp) (n : Int) : primConv tys hp 2 41 (some (.v (.int .i64 n))) = some (.v (.int .u64 (IntKind.u64.wrap n)), hp) := by
  rw [cv hp 2 41 y2 y41 rfl rfl rfl rfl]; rfl
theorem str40 {hp : Hp} {x : PV} {bs : List Nat} (h : AccS 1 hp x (bs.map fun b => [u8 b])) : primConv tys hp 40 9 (some x) = some (bstr (bs.map UInt8.ofNat), hp) :=
  AccS.str (si := y40) (di := y9) (ei := y5) rfl rfl rfl rfl rfl rfl rfl rfl h

theorem pow64 : (2 : Int) ^ IntKind.u64.bits = 18446744073709551616 := by decide
theorem max64 : IntKind.u64.max = .ofNat 18446744073709551615 := by decide
theorem npow64 : 2 ^ IntKind.u64.bits = 18446744073709551616 := by decide
theorem wrapNeg (m : Nat) (h : m < 9223372036854775808) : IntKind.u64.wrap (.negSucc m) = .ofNat (18446744073709551615 - m) := by
  unfold IntKind.wrap
  simp only [pow64, IntKind.signed, Bool.false_and, Bool.false_eq_true, if_false]
  have e : Int.negSucc m = -(m : Int) - 1 := by omega
  rw [e, Int.ofNat_eq_natCast]
  omega
theorem una_not64 (x : Nat) (h : x < 18446744073709551616) : una .xor (u64 x) = some (u64 (18446744073709551615 - x)) := by
  have e : una .xor (u64 x) = bitBin Nat.xor .u64 IntKind.u64.max (.ofNat x) := rfl
  rw [e, max64, bitsU Nat.xor rfl (by rw [npow64]; decide) (by rw [npow64]; exact h)]
  have h2 : Nat.xor 18446744073709551615 x = 18446744073709551615 - x := by
    have h3 := congrArg BitVec.toNat (BitVec.xor_allOnes (x := BitVec.ofNat 64 x))
    rw [BitVec.toNat_xor, BitVec.toNat_not, BitVec.toNat_ofNat, BitVec.toNat_allOnes, Nat.mod_eq_of_lt (Nat.lt_of_lt_of_le h (by decide))] at h3
    have h4 : (2 : Nat) ^ 64 - 1 = 18446744073709551615 := by decide
    rw [h4, Nat.xor_comm] at h3
    exact h3
  rw [h2]

/-- the tail of Integer, from its number -/
theorem tail5 (O : Orc) {R : Type} (n z : Nat) (hz : z < 2 ^ 64) (hp : Hp) (k : PV → Hp → Option R) (f9 : Bool) :
    evC tys e5 (.seq r5_4 (.seq (.block 0 l5_0) (.seq r5_8 .ret))) (callF tys fns O (run tys fns O (n + 9))) (run tys fns O (n + 9)) ⟨if f9 then [(3, u64 z)] else [(3, u64 z), (9, bt false)], ⟨[], 0, []⟩⟩ (endK tys e5.fn (dataK k hp)) =
      k (bstr ((encInit 9 z ++ [encLast 9 z]).map UInt8.ofNat)) hp := by
  have hz2 : z < 128 ^ 10 := Nat.lt_of_lt_of_le hz (by decide)
  obtain ⟨hp1, x1, h1, h2⟩ := loop5 O (R := R) 9 n z nl ⟨[], 0, []⟩ [] hz2 hz (AccS.nil 1 _) (by simp)
  have hl := encLast_lt 9 z hz2
  have hil := encInit_len 9 z
  have e1 : encLast 9 z % 256 = encLast 9 z := Nat.mod_eq_of_lt (by omega)
  have h2' : AccS 1 hp1 x1 ((encInit 9 z).map fun b => [u8 b]) := by simpa using h2
  obtain ⟨x2, hp2, g1, g2, _⟩ := h2'.app sl40 (e := [u8 (encLast 9 z)]) rfl (by simp; omega)
  have g2' : AccS 1 hp2 x2 ((encInit 9 z ++ [encLast 9 z]).map fun b => [u8 b]) := by simpa using g2
  have hcells : pvCells (u8 (encLast 9 z)) = some [u8 (encLast 9 z)] := rfl
  cases f9 <;>
  simp only [if_true, if_false, Bool.false_eq_true, ev_seq, r5_4a, r5_4b, seqK_normal, ev_block, h1, blockK_exit, Nat.beq_refl, cond_true, r5_8a, cv_41_5, e1, mkRow40 _ _ hcells, prim2, g1, bP_some, str40 g2', ev_ret, seqK_ret, endK_ret, z5a, consO_some, oneR_one, bQ_some, dataK_eq k hp (frz0 _ _)]

theorem integer_mid (O : Orc) {R : Type} (n : Nat) (x : Int) (a b c : Nat) (hw : IntKind.u64.wrap x = .ofNat a) (hs : a * 2 ^ 1 % 2 ^ IntKind.u64.bits = b) (hc : c < 2 ^ 64) (f : Bool) (hlt : ileb (Int.ofNat 0) x = !f) (hf : f = false → b = c)
    (hu : f = true → una .xor (u64 b) = some (u64 c)) (hp : Hp) (k : PV → Hp → Option R) :
    callF tys fns O (run tys fns O (n + 20)) 5 [.v (.int .i64 x)] hp k = k (bstr ((encInit 9 c ++ [encLast 9 c]).map UInt8.ofNat)) hp := by
  rw [call_data (fi := e5) rfl rfl (frz1 hp _), b5, show n + 20 = (n + 10 + 9) + 1 by omega, run_succ, c5_eq]
  have ht := tail5 O (R := R) (n + 10) c hc hp k f
  cases f with
  | false =>
    have hb := hf rfl
    subst hb
    simp only [if_false, Bool.false_eq_true] at ht
    simp only [ev_seq, r5_0a, seqK_normal, r5_1a, cv_2_41, bP_some, primBin_eq, bin_int, hw, int_shlU .u64 .i64 rfl _ 1 (by decide), int_shlU .u64 .u64 rfl _ 1 (by decide), hs, ret1_some', r5_2a, int_lss]
    simp only [hlt, Bool.not_true, Bool.not_false, bP_some, ret1_some', seqK_normal, ev_cond, opd_tmp, alget, Nat.reduceEqDiff, reduceIte, bB_false, ev_skip]
    exact ht
  | true =>
    have hu := hu rfl
    simp only [if_true] at ht
    simp only [ev_seq, r5_0a, seqK_normal, r5_1a, cv_2_41, bP_some, primBin_eq, bin_int, hw, int_shlU .u64 .i64 rfl _ 1 (by decide), int_shlU .u64 .u64 rfl _ 1 (by decide), hs, ret1_some', r5_2a, int_lss]
    simp only [hlt, Bool.not_true, Bool.not_false, bP_some, ret1_some', seqK_normal, ev_cond, opd_tmp, alget, Nat.reduceEqDiff, reduceIte, bB_true, r5_3a, primUn_eq, hu]
    exact ht
theorem integer_ev (O : Orc) {R : Type} (n : Nat) (x : Int) (hx : -9223372036854775808 ≤ x ∧ x < 9223372036854775808) (hp : Hp) (k : PV → Hp → Option R) :
    callF tys fns O (run tys fns O (n + 20)) 5 [.v (.int .i64 x)] hp k = k (bstr (enc x)) hp := by
  cases x with
  | ofNat m =>
    have hm : m < 9223372036854775808 := by have := hx.2; rw [Int.ofNat_eq_natCast] at this; omega
    exact integer_mid O n (.ofNat m) m (2 * m) (2 * m) (by rw [wrapU rfl, Nat.mod_eq_of_lt (by rw [npow64]; omega)]) (by rw [npow64]; omega) (by omega) false (by show Nat.ble 0 m = true; simp) (fun _ => rfl) (fun h => by cases h) hp k
  | negSucc m =>
    have hm : m < 9223372036854775808 := by have := hx.1; omega
    have he : enc (.negSucc m) = (encInit 9 (2 * m + 1) ++ [encLast 9 (2 * m + 1)]).map UInt8.ofNat := by
      unfold enc zig; simp only []
    rw [he]
    exact integer_mid O n (.negSucc m) (18446744073709551615 - m) (18446744073709551614 - 2 * m) (2 * m + 1) (wrapNeg m hm) (by rw [npow64]; omega) (by omega) true rfl (fun h => by cases h)
      (fun _ => by
        have e : 18446744073709551615 - (18446744073709551614 - 2 * m) = 2 * m + 1 := by omega
        rw [una_not64 _ (by omega), e]) hp k
end Go.Ev

/- The sum of a text, as the reference reckons it: bit for bit. -/
namespace Go.Ev
open Go.Proofs

/-! ### the law of the sum -/
def P32 : Nat := 2197175160
def st1 (c : Nat) : Nat := if c % 2 = 1 then (c / 2) ^^^ P32 else c / 2
def stN : Nat → Nat → Nat
  | 0, c => c
  | k + 1, c => stN k (st1 c)
theorem st1_lt {c : Nat} (h : c < 2 ^ 32) : st1 c < 2 ^ 32 := by
  unfold st1
  split
  · exact Nat.xor_lt_two_pow (by omega) (by decide)
  · omega
theorem stN_lt : ∀ (k : Nat) {c : Nat}, c < 2 ^ 32 → stN k c < 2 ^ 32
  | 0, _, h => h
  | k + 1, _, h => stN_lt k (st1_lt h)
theorem st1_xor (x y : Nat) : st1 (x ^^^ y) = st1 x ^^^ st1 y := by
  unfold st1
  rw [Nat.xor_div_two]
  have h := @Nat.xor_mod_two_eq_one x y
  by_cases hx : x % 2 = 1 <;> by_cases hy : y % 2 = 1
  · rw [if_neg (by rw [h]; simp [hx, hy]), if_pos hx, if_pos hy]
    rw [Nat.xor_assoc, Nat.xor_comm P32, Nat.xor_assoc, Nat.xor_self, Nat.xor_zero]
  · rw [if_pos (by rw [h]; simp [hx, hy]), if_pos hx, if_neg hy]
    rw [Nat.xor_assoc, Nat.xor_comm _ P32, ← Nat.xor_assoc]
  · rw [if_pos (by rw [h]; simp [hx, hy]), if_neg hx, if_pos hy, Nat.xor_assoc]
  · rw [if_neg (by rw [h]; simp [hx, hy]), if_neg hx, if_neg hy]
theorem stN_xor : ∀ (k x y : Nat), stN k (x ^^^ y) = stN k x ^^^ stN k y
  | 0, _, _ => rfl
  | k + 1, x, y => by
    show stN k (st1 (x ^^^ y)) = stN k (st1 x) ^^^ stN k (st1 y)
    rw [st1_xor, stN_xor k]
theorem st1_two (q : Nat) : st1 (2 * q) = q := by
  unfold st1
  rw [if_neg (by omega)]
  omega
theorem stN_pow : ∀ (k q : Nat), stN k (2 ^ k * q) = q
  | 0, q => by simp [stN]
  | k + 1, q => by
    show stN k (st1 (2 ^ (k + 1) * q)) = q
    rw [show 2 ^ (k + 1) * q = 2 * (2 ^ k * q) by rw [Nat.pow_succ]; rw [Nat.mul_comm (2 ^ k) 2, Nat.mul_assoc], st1_two, stN_pow k q]
theorem low_high (q l : Nat) (h : l < 256) : 256 * q + l = (256 * q) ^^^ l := by
  apply Nat.eq_of_testBit_eq
  intro j
  rw [Nat.testBit_xor, show 256 = 2 ^ 8 by rfl, Nat.testBit_two_pow_mul_add q h j, Nat.testBit_two_pow_mul]
  by_cases hj : j < 8
  · simp [hj, show ¬ (8 ≤ j) by omega]
  · have : l.testBit j = false := Nat.testBit_lt_two_pow (Nat.lt_of_lt_of_le h (by
      have : 2 ^ 8 ≤ 2 ^ j := Nat.pow_le_pow_right (by decide) (by omega)
      exact this))
    simp [hj, this, show 8 ≤ j by omega]
/-- one byte by the table of all bytes -/
theorem byte_step (r b : Nat) : stN 8 (r ^^^ b) = (r / 256) ^^^ stN 8 ((r % 256) ^^^ b) := by
  have e : r = (256 * (r / 256)) ^^^ (r % 256) := by
    rw [← low_high _ _ (Nat.mod_lt _ (by decide))]; omega
  have e2 : stN 8 (256 * (r / 256)) = r / 256 := stN_pow 8 (r / 256)
  conv => lhs; rw [e]
  rw [Nat.xor_assoc, stN_xor, e2]

def crc : List UInt8 → Nat → Nat
  | [], c => c
  | b :: l, c => crc l (stN 8 (c ^^^ b.toNat))
theorem crc_lt : ∀ (l : List UInt8) {c : Nat}, c < 2 ^ 32 → crc l c < 2 ^ 32
  | [], _, h => h
  | b :: l, c, h => crc_lt l (stN_lt 8 (Nat.xor_lt_two_pow h (Nat.lt_of_lt_of_le b.toNat_lt (by decide))))
def sum (l : List UInt8) : Nat := 4294967295 - crc l 4294967295
theorem sum_lt (l : List UInt8) : sum l < 2 ^ 32 := by unfold sum; omega

/-! ### the walk -/
theorem npow32 : 2 ^ IntKind.u32.bits = 4294967296 := by decide
theorem max32 : IntKind.u32.max = .ofNat 4294967295 := by decide
theorem una_not32 (x : Nat) (h : x < 4294967296) : una .xor (u32 x) = some (u32 (4294967295 - x)) := by
  have e : una .xor (u32 x) = bitBin Nat.xor .u32 IntKind.u32.max (.ofNat x) := rfl
  rw [e, max32, bitsU Nat.xor rfl (by rw [npow32]; decide) (by rw [npow32]; exact h)]
  have h2 : Nat.xor 4294967295 x = 4294967295 - x := by
    have h3 := congrArg BitVec.toNat (BitVec.xor_allOnes (x := BitVec.ofNat 32 x))
    rw [BitVec.toNat_xor, BitVec.toNat_not, BitVec.toNat_ofNat, BitVec.toNat_allOnes, Nat.mod_eq_of_lt (Nat.lt_of_lt_of_le h (by decide))] at h3
    have h4 : (2 : Nat) ^ 32 - 1 = 4294967295 := by decide
    rw [h4, Nat.xor_comm] at h3
    exact h3
  rw [h2]
theorem len9 (hp : Hp) (l : List UInt8) : primLen tys hp 9 (some (bstr l)) = some (i l.length, hp) := _root_.id rfl
theorem idx9 (hp : Hp) (l : List UInt8) (n : Nat) (b : UInt8) (h : l[n]? = some b) : primIndex tys hp 9 (some (bstr l)) (some (i n)) = some (u8 b.toNat, hp) := by
  show byteOf hp (l[n]?) = _
  rw [h]; rfl
theorem cv_5_37 (hp : Hp) (n : Nat) (h : n < 256) : primConv tys hp 5 37 (some (u8 n)) = some (u32 n, hp) := by
  rw [cv hp 5 37 y5 y37 rfl rfl rfl rfl]
  show some (PV.v (.int .u32 (wrapq .u32 (.ofNat n))), hp) = _
  rw [wrapqU rfl, Nat.mod_eq_of_lt (by rw [npow32]; omega)]
theorem lss_true {a b : Nat} (h : a < b) : (!Nat.ble b a) = true := by
  rw [Bool.not_eq_true', Bool.eq_false_iff]; intro e; have := Nat.le_of_ble_eq_true e; omega
theorem lss_false {a b : Nat} (h : b ≤ a) : (!Nat.ble b a) = false := by
  rw [Nat.ble_eq_true_of_le h]; rfl
theorem and_one (c : Nat) : c &&& 1 = c % 2 := Nat.and_one_is_mod c

theorem loop12i (O : Orc) {R : Type} (x0 x4 : PV) (hp : Hp) (k : Ex → St → Option R) : ∀ (d n j c : Nat), j + d = 8 → c < 2 ^ 32 →
    evC tys e12 l12_0 (callF tys fns O (run tys fns O (n + d))) (run tys fns O (n + d)) ⟨[(0, x0), (3, u32 c), (4, x4), (5, i j)], hp⟩ k =
      k (.exit 2) ⟨[(0, x0), (3, u32 (stN d c)), (4, x4), (5, i 8), (20, bt false)], hp⟩ := by
  intro d
  induction d with
  | zero =>
    intro n j c hj hc
    have hj : j = 8 := by omega
    subst hj
    have hb : (!Nat.ble 8 8) = false := rfl
    simp only [l12_0_eq, ev_loop, ev_seq, r12_7a, primBin_eq, bin_int, int_lss, ofNat_ble, hb, ret1_some', bP_some, seqK_normal, ev_cond, opd_tmp, alget, Nat.reduceEqDiff, reduceIte, bB_false, ev_exit, seqK_exit, stN]
  | succ d ih =>
    intro n j c hj hc
    have hb : (!Nat.ble 8 j) = true := lss_true (by omega)
    have h1 : (1 : Nat) < 2 ^ IntKind.u32.bits := by rw [npow32]; decide
    have hc' : c < 2 ^ IntKind.u32.bits := by rw [npow32]; omega
    have ih' := ih n (j + 1) (st1 c) (by omega) (st1_lt hc)
    have hadd : j + 1 ≤ 9223372036854775807 := by omega
    by_cases ho : c % 2 = 1
    · have hq : ieqb (Int.ofNat (c &&& 1)) (Int.ofNat 1) = true := by rw [and_one, ho]; rfl
      have hs : st1 c = (c / 2 ^ 1) ^^^ 2197175160 := by unfold st1; rw [if_pos ho]; rfl
      rw [hs] at ih'
      simp only [l12_0_eq, ev_loop, ev_seq, r12_7a, primBin_eq, bin_int, int_lss, ofNat_ble, hb, ret1_some', bP_some, seqK_normal, ev_cond, opd_tmp, alget, Nat.reduceEqDiff, reduceIte, bB_true, ev_skip, ev_block, r12_9a, r12_10a, r12_11a, r12_12a, r12_8a, r12_8b,
        int_andU .u32 rfl c 1 hc' h1, int_shr .u32 .u64 c 1 (by decide), int_eql, hq, int_xorU .u32 rfl (c / 2 ^ 1) 2197175160 (by rw [npow32]; omega) (by rw [npow32]; decide), blockK_normal, int_add64 j 1 hadd]
      rw [show n + (d + 1) = (n + d) + 1 by omega, run_succ]
      show evC tys e12 l12_0 _ _ _ _ = k (.exit 2) ⟨[(0, x0), (3, u32 (stN d (st1 c))), (4, x4), (5, i 8), (20, bt false)], hp⟩
      rw [hs]
      exact ih'
    · have hq : ieqb (Int.ofNat (c &&& 1)) (Int.ofNat 1) = false := by
        rw [and_one, show c % 2 = 0 by omega]; rfl
      have hs : st1 c = c / 2 ^ 1 := by unfold st1; rw [if_neg ho]
      rw [hs] at ih'
      simp only [l12_0_eq, ev_loop, ev_seq, r12_7a, primBin_eq, bin_int, int_lss, ofNat_ble, hb, ret1_some', bP_some, seqK_normal, ev_cond, opd_tmp, alget, Nat.reduceEqDiff, reduceIte, bB_true, bB_false, ev_skip, ev_block, r12_9a, r12_10a, r12_11a, r12_12a, r12_8a, r12_8b,
        int_andU .u32 rfl c 1 hc' h1, int_shr .u32 .u64 c 1 (by decide), int_eql, hq, blockK_normal, int_add64 j 1 hadd]
      rw [show n + (d + 1) = (n + d) + 1 by omega, run_succ]
      show evC tys e12 l12_0 _ _ _ _ = k (.exit 2) ⟨[(0, x0), (3, u32 (stN d (st1 c))), (4, x4), (5, i 8), (20, bt false)], hp⟩
      rw [hs]
      exact ih'
theorem loop12 (O : Orc) {R : Type} (l : List UInt8) (hl : l.length ≤ 1000000) (hp : Hp) (k : Ex → St → Option R) : ∀ (d n a c : Nat), a + d = l.length → c < 2 ^ 32 →
    evC tys e12 l12_1 (callF tys fns O (run tys fns O (n + 9 + d))) (run tys fns O (n + 9 + d)) ⟨[(0, bstr l), (3, u32 c), (4, i a)], hp⟩ k =
      k (.exit 0) ⟨[(0, bstr l), (3, u32 (crc (l.drop a) c)), (4, i l.length), (10, bt false)], hp⟩ := by
  intro d
  induction d with
  | zero =>
    intro n a c ha hc
    have ha : a = l.length := by omega
    subst ha
    have hb : (!Nat.ble l.length l.length) = false := lss_false (Nat.le_refl _)
    have hd : crc (l.drop l.length) c = c := by rw [List.drop_length]; rfl
    simp only [l12_1_eq, ev_loop, ev_seq, r12_3a, len9, primBin_eq, bin_int, int_lss, ofNat_ble, hb, ret1_some', bP_some, seqK_normal, ev_cond, opd_tmp, alget, Nat.reduceEqDiff, reduceIte, bB_false, ev_exit, seqK_exit, hd]
  | succ d ih =>
    intro n a c ha hc
    have hb : (!Nat.ble l.length a) = true := lss_true (by omega)
    obtain ⟨b, hget⟩ : ∃ b, l[a]? = some b := ⟨l[a], List.getElem?_eq_getElem (by omega)⟩
    have hb8 : b.toNat < 256 := b.toNat_lt
    have hc' : c < 2 ^ IntKind.u32.bits := by rw [npow32]; omega
    have hb' : b.toNat < 2 ^ IntKind.u32.bits := by rw [npow32]; omega
    have hx : c ^^^ b.toNat < 2 ^ 32 := Nat.xor_lt_two_pow hc (by omega)
    have hin := loop12i O (R := R) (bstr l) (i a) hp
    have ih' := ih n (a + 1) (stN 8 (c ^^^ b.toNat)) (by omega) (stN_lt 8 hx)
    have hdrop : l.drop a = b :: l.drop (a + 1) := by
      rw [List.drop_eq_getElem_cons (by omega)]
      congr 1
      have := List.getElem?_eq_getElem (l := l) (i := a) (by omega)
      rw [this] at hget; exact Option.some.inj hget
    have hcr : crc (l.drop a) c = crc (l.drop (a + 1)) (stN 8 (c ^^^ b.toNat)) := by rw [hdrop]; rfl
    rw [hcr]
    have hin2 := fun k => hin k 8 (n + 2 + d) 0 (c ^^^ b.toNat) (by omega) hx
    simp only [l12_1_eq, ev_loop, ev_seq, r12_3a, len9, primBin_eq, bin_int, int_lss, ofNat_ble, hb, ret1_some', bP_some, seqK_normal, ev_cond, opd_tmp, alget, Nat.reduceEqDiff, reduceIte, bB_true, ev_skip, ev_block,
      r12_5a, idx9 hp l a b hget, cv_5_37 hp b.toNat hb8, int_xorU .u32 rfl c b.toNat hc' hb', r12_6a]
    rw [show n + 9 + (d + 1) = (n + 2 + d) + 8 by omega, hin2]
    simp only [blockK_at, Nat.reduceEqDiff, reduceIte, blockK_normal, seqK_normal, r12_4a, primBin_eq, bin_int, int_add64 a 1 (by omega), ret1_some', bP_some]
    rw [← l12_1_eq, show n + 2 + d + 8 = (n + 9 + d) + 1 by omega, run_succ]
    exact ih'
theorem refSum_ev (O : Orc) {R : Type} (n : Nat) (l : List UInt8) (hl : l.length ≤ 1000000) (hp : Hp) (k : PV → Hp → Option R) :
    callF tys fns O (run tys fns O (n + l.length + 11)) 12 [bstr l] hp k = k (u32 (sum l)) hp := by
  have hlo := loop12 O (R := R) l hl ⟨[], 0, []⟩
  have hc : crc l 4294967295 < 4294967296 := crc_lt l (by decide)
  have hx := una_not32 (crc l 4294967295) hc
  rw [call_data (fi := e12) rfl rfl (frz1 hp _), b12, show n + l.length + 11 = (n + 1 + 9 + l.length) + 1 by omega, run_succ, c12_eq]
  simp only [ev_seq, r12_0a, r12_1a, r12_2a, seqK_normal, ev_block, hlo _ l.length (n + 1) 0 4294967295 (by omega) (by decide), List.drop_zero, blockK_at, reduceIte, r12_13a, primUn_eq, hx, ret1_some', bP_some, ev_ret, seqK_ret, endK_ret, z12a, consO_some, oneR_one, bQ_some, dataK_eq k hp (frz0 _ _), sum]
end Go.Ev
