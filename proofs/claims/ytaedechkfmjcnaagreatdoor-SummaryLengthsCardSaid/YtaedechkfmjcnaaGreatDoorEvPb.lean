/- The sum of a text, as the program reckons it: by a table of all bytes. -/
import Derived.Test.YtaedechkfmjcnaaGreatDoorEvPa
set_option linter.all false
/- The sum of a text, as the program reckons it: by a table of all bytes. -/
namespace Go.Ev
open Go.Proofs

def tab : Nat → List PV
  | 0 => []
  | n + 1 => tab n ++ [.v (.int .u32 (.ofNat (stN 8 n)))]
theorem tab_len : ∀ n, (tab n).length = n
  | 0 => rfl
  | n + 1 => by simp [tab, tab_len n]
theorem tab_get : ∀ (n : Nat) {t : Nat}, t < n → (tab n)[t]? = some (u32 (stN 8 t))
  | 0, t, h => absurd h (Nat.not_lt_zero _)
  | n + 1, t, h => by
    unfold tab
    by_cases ht : t < n
    · rw [List.getElem?_append_left (by rw [tab_len]; exact ht)]
      exact tab_get n ht
    · have : t = n := by omega
      subst this
      rw [List.getElem?_append_right (by rw [tab_len]; exact Nat.le_refl _), tab_len]
      simp
def tabPV : PV := .agg (tab 256)
theorem k53 [Env] : Known Tryz.prog 53 [] tabPV := known_ofF tOk mixed fnsOk (B := []) trivial e53ok (n := 100000) (by kernel_rfl)

abbrev tabHp : Hp := ⟨[(0, ⟨tab 256, 256, false, 0⟩)], 1, []⟩
theorem tabIx (t : Nat) (h : t < 256) : primIndexAddr tys tabHp 89 (some (.ptr 0 0)) (some (u8 t)) = some (.ptr 0 (0 + t * 1), tabHp) := by
  show ret1 tabHp (match Nat.blt t 256 with | false => none | true => idxArr (.ptr 0 0) (t * 1)) = _
  have : Nat.blt t 256 = true := Nat.ble_eq_true_of_le h
  rw [this]
  rfl
theorem tabLd (t : Nat) (h : t < 256) : primLoad tys tabHp 37 (some (.ptr 0 (0 + t * 1))) = some (u32 (stN 8 t), tabHp) := by
  show ret1 tabHp ((tab 256)[0 + t * 1]?) = _
  rw [show 0 + t * 1 = t by omega, tab_get 256 h]
  rfl
theorem cv_37_5 (hp : Hp) (n : Nat) : primConv tys hp 37 5 (some (u32 n)) = some (u8 (n % 256), hp) := by
  rw [cv hp 37 5 y37 y5 rfl rfl rfl rfl]
  show some (PV.v (.int .u8 (wrapq .u8 (.ofNat n))), hp) = _
  rw [wrapqU rfl]; rfl
theorem npow8 : 2 ^ IntKind.u8.bits = 256 := by decide

theorem loop32 (O : Orc) {R : Type} (l : List UInt8) (hl : l.length ≤ 1000000) (k : Ex → St → Option R) : ∀ (d n a c : Nat), a + d = l.length → c < 2 ^ 32 →
    evC tys e32 l32_0 (callF tys fns O (run tys fns O (n + d))) (run tys fns O (n + d)) ⟨[(0, bstr l), (3, .ptr 0 0), (4, u32 c), (8, i l.length), (9, i a)], tabHp⟩ k =
      k (.exit 0) ⟨[(0, bstr l), (3, .ptr 0 0), (4, u32 (crc (l.drop a) c)), (8, i l.length), (9, i l.length), (10, bt false)], tabHp⟩ := by
  intro d
  induction d with
  | zero =>
    intro n a c ha hc
    have ha : a = l.length := by omega
    subst ha
    have hb : (!Nat.ble l.length l.length) = false := lss_false (Nat.le_refl _)
    have hd : crc (l.drop l.length) c = c := by rw [List.drop_length]; rfl
    simp only [l32_0_eq, ev_loop, ev_seq, r32_4a, primBin_eq, bin_int, int_lss, ofNat_ble, hb, ret1_some', bP_some, seqK_normal, ev_cond, opd_tmp, alget, Nat.reduceEqDiff, reduceIte, bB_false, ev_exit, seqK_exit, hd]
  | succ d ih =>
    intro n a c ha hc
    have hb : (!Nat.ble l.length a) = true := lss_true (by omega)
    obtain ⟨b, hget⟩ : ∃ b, l[a]? = some b := ⟨l[a], List.getElem?_eq_getElem (by omega)⟩
    have hb8 : b.toNat < 256 := b.toNat_lt
    have hc8 : c % 256 < 256 := Nat.mod_lt _ (by decide)
    have hcq : c / 2 ^ 8 < 2 ^ IntKind.u32.bits := by rw [npow32]; omega
    have hx8 : (c % 256) ^^^ b.toNat < 256 := Nat.xor_lt_two_pow (n := 8) hc8 hb8
    have hs8 : stN 8 ((c % 256) ^^^ b.toNat) < 2 ^ IntKind.u32.bits := by rw [npow32]; exact stN_lt 8 (by omega)
    have hx : c ^^^ b.toNat < 2 ^ 32 := Nat.xor_lt_two_pow hc (by omega)
    have ih' := ih n (a + 1) (stN 8 (c ^^^ b.toNat)) (by omega) (stN_lt 8 hx)
    have hdrop : l.drop a = b :: l.drop (a + 1) := by
      rw [List.drop_eq_getElem_cons (by omega)]
      congr 1
      have := List.getElem?_eq_getElem (l := l) (i := a) (by omega)
      rw [this] at hget; exact Option.some.inj hget
    have hcr : crc (l.drop a) c = crc (l.drop (a + 1)) (stN 8 (c ^^^ b.toNat)) := by rw [hdrop]; rfl
    have hst : (c / 2 ^ 8) ^^^ stN 8 ((c % 256) ^^^ b.toNat) = stN 8 (c ^^^ b.toNat) := (byte_step c b.toNat).symm
    rw [hcr]
    simp only [l32_0_eq, ev_loop, ev_seq, r32_4a, primBin_eq, bin_int, int_lss, ofNat_ble, hb, ret1_some', bP_some, seqK_normal, ev_cond, opd_tmp, alget, Nat.reduceEqDiff, reduceIte, bB_true, ev_skip, ev_block,
      r32_5a, r32_6a, r32_7a, int_shr .u32 .u64 c 8 (by decide), cv_37_5, idx9 _ l a b hget, int_xorU .u8 rfl (c % 256) b.toNat (by rw [npow8]; exact hc8) (by rw [npow8]; exact hb8), tabIx _ hx8, tabLd _ hx8,
      int_xorU .u32 rfl (c / 2 ^ 8) (stN 8 ((c % 256) ^^^ b.toNat)) hcq hs8, hst, blockK_normal, int_add64 a 1 (by omega)]
    rw [← l32_0_eq, show n + (d + 1) = (n + d) + 1 by omega, run_succ]
    exact ih'
theorem progSum_ev (O : Orc) (hO : O 53 [] = some tabPV) {R : Type} (n : Nat) (l : List UInt8) (hl : l.length ≤ 1000000) (hp : Hp) (k : PV → Hp → Option R) :
    callF tys fns O (run tys fns O (n + l.length + 11)) 32 [bstr l] hp k = k (u32 (sum l)) hp := by
  have hlo := loop32 O (R := R) l hl
  have hc : crc l 4294967295 < 4294967296 := crc_lt l (by decide)
  have hx := una_not32 (crc l 4294967295) hc
  have h1 : primAlloc tys ⟨[], 0, []⟩ 89 = some (.ptr 0 0, ⟨[(0, ⟨y89.zero.map .v, 256, false, 0⟩)], 1, []⟩) := rfl
  have h2 : primStore tys ⟨[(0, ⟨y89.zero.map .v, 256, false, 0⟩)], 1, []⟩ 89 (some (.ptr 0 0)) (some tabPV) = some (.un, tabHp) := by kernel_rfl
  have hask : ∀ (rc : RC R) (k : PV → Hp → Option R), callF tys fns O rc 53 [] ⟨[], 0, []⟩ k = k tabPV ⟨[], 0, []⟩ := fun rc k => call_asked rfl rfl hO
  rw [call_data (fi := e32) rfl rfl (frz1 hp _), b32, show n + l.length + 11 = (n + 10 + l.length) + 1 by omega, run_succ, c32_eq]
  simp only [ev_seq, r32_0a, r32_1a, hask, h1, h2, bP_some, r32_2a, r32_3a, len9, seqK_normal, ev_block, hlo _ l.length (n + 10) 0 4294967295 (by omega) (by decide), List.drop_zero, blockK_at, reduceIte, r32_8a, primUn_eq, hx, ret1_some', bP_some, ev_ret, seqK_ret, endK_ret, z32a, consO_some, oneR_one, bQ_some, dataK_eq k hp (frz0 _ _), sum]
end Go.Ev

/- Texts with their sums: sealed and opened, by the reference and by the program. -/
namespace Go.Ev
open Go.Proofs

def tail4 (c : Nat) : List UInt8 := [UInt8.ofNat (c % 256), UInt8.ofNat (c / 2 ^ 8 % 256), UInt8.ofNat (c / 2 ^ 16 % 256), UInt8.ofNat (c / 2 ^ 24 % 256)]
def sld (l : List UInt8) : List UInt8 := l ++ tail4 (sum l)
theorem sld_len (l : List UInt8) : (sld l).length = l.length + 4 := by simp [sld, tail4]
theorem sld_take (l : List UInt8) : (sld l).take ((sld l).length - 4) = l := by
  rw [sld_len]; simp [sld]

theorem mk4 (a b c d : Nat) : primBuildSlice tys ⟨[], 0, []⟩ 40 4 (some [(0, u8 a), (1, u8 b), (2, u8 c), (3, u8 d)]) = some (.row 0 0 4 4 1, ⟨[(0, ⟨[u8 a, u8 b, u8 c, u8 d], 1, false, 0⟩)], 1, []⟩) := by kernel_rfl
theorem st4 (a b c d : Nat) : primConv tys ⟨[(0, ⟨[u8 a, u8 b, u8 c, u8 d], 1, false, 0⟩)], 1, []⟩ 40 9 (some (.row 0 0 4 4 1)) = some (bstr [UInt8.ofNat a, UInt8.ofNat b, UInt8.ofNat c, UInt8.ofNat d], ⟨[(0, ⟨[u8 a, u8 b, u8 c, u8 d], 1, false, 0⟩)], 1, []⟩) := by kernel_rfl
theorem str_add (a b : List UInt8) (h : a.length + b.length ≤ 9223372036854775807) : strBin .add ⟨⟨a⟩⟩ ⟨⟨b⟩⟩ = some (bstr (a ++ b)) := by
  show (match Nat.ble (a.length + b.length) 9223372036854775807 with | true => some (bstr (a ++ b)) | false => none) = _
  rw [Nat.ble_eq_true_of_le h]
theorem bytesEq_refl : ∀ (l : List UInt8), bytesEq l l = true
  | [] => rfl
  | a :: l => by
    unfold bytesEq
    rw [Nat.beq_refl]
    exact bytesEq_refl l
theorem str_neq_refl (l : List UInt8) : strBin .neq ⟨⟨l⟩⟩ ⟨⟨l⟩⟩ = some (bt false) := by
  show some (bt (!(bytesEq l l))) = _
  rw [bytesEq_refl]; rfl
theorem slice_to (hp : Hp) (l : List UInt8) (m : Nat) (h : m ≤ l.length) : primSlice tys hp 9 (some (bstr l)) (some none) (some (some (i m))) (some none) = some (bstr (l.take m), hp) := by
  show ret1 hp (match (match Nat.ble m l.length with | true => some m | false => none) with | none => none | some h => match bound 0 none h with | none => none | some lo => some (.v (.string ⟨⟨(l.take h).drop lo⟩⟩))) = _
  rw [Nat.ble_eq_true_of_le h]
  rfl

theorem refSeal_ev (O : Orc) {R : Type} (n : Nat) (l : List UInt8) (hl : l.length ≤ 1000000) (hp : Hp) (k : PV → Hp → Option R) :
    callF tys fns O (run tys fns O (n + l.length + 12)) 4 [bstr l] hp k = k (bstr (sld l)) hp := by
  have hs := refSum_ev O (R := R) n l hl
  have ht : l.length + (tail4 (sum l)).length ≤ 9223372036854775807 := by simp [tail4]; omega
  have hadd := str_add l (tail4 (sum l)) ht
  rw [call_data (fi := e4) rfl rfl (frz1 hp _), b4, show n + l.length + 12 = (n + l.length + 11) + 1 by omega, run_succ, c4_eq]
  simp only [ev_seq, r4_0a, r4_1a, hs, seqK_normal, r4_2a, cv_37_5, bP_some, primBin_eq, bin_int, int_shr .u32 .u64 (sum l) 8 (by decide), int_shr .u32 .u64 (sum l) 16 (by decide), int_shr .u32 .u64 (sum l) 24 (by decide), ret1_some', mk4, st4, bin_str]
  rw [show strBin .add ⟨⟨l⟩⟩ ⟨⟨[UInt8.ofNat (sum l % 256), UInt8.ofNat (sum l / 2 ^ 8 % 256), UInt8.ofNat (sum l / 2 ^ 16 % 256), UInt8.ofNat (sum l / 2 ^ 24 % 256)]⟩⟩ = some (bstr (sld l)) from hadd]
  simp only [ret1_some', bP_some, ev_ret, seqK_ret, endK_ret, z4a, consO_some, oneR_one, bQ_some, dataK_eq k hp (frz0 _ _)]

theorem progSeal_ev (O : Orc) (hO : O 53 [] = some tabPV) {R : Type} (n : Nat) (l : List UInt8) (hl : l.length ≤ 1000000) (hp : Hp) (k : PV → Hp → Option R) :
    callF tys fns O (run tys fns O (n + l.length + 12)) 33 [bstr l] hp k = k (bstr (sld l)) hp := by
  have hs := progSum_ev O hO (R := R) n l hl
  have ht : l.length + (tail4 (sum l)).length ≤ 9223372036854775807 := by simp [tail4]; omega
  have hadd := str_add l (tail4 (sum l)) ht
  rw [call_data (fi := e33) rfl rfl (frz1 hp _), b33, show n + l.length + 12 = (n + l.length + 11) + 1 by omega, run_succ, c33_eq]
  simp only [ev_seq, r33_0a, r33_1a, hs, seqK_normal, r33_2a, cv_37_5, bP_some, primBin_eq, bin_int, int_shr .u32 .u64 (sum l) 8 (by decide), int_shr .u32 .u64 (sum l) 16 (by decide), int_shr .u32 .u64 (sum l) 24 (by decide), ret1_some', mk4, st4, bin_str]
  rw [show strBin .add ⟨⟨l⟩⟩ ⟨⟨[UInt8.ofNat (sum l % 256), UInt8.ofNat (sum l / 2 ^ 8 % 256), UInt8.ofNat (sum l / 2 ^ 16 % 256), UInt8.ofNat (sum l / 2 ^ 24 % 256)]⟩⟩ = some (bstr (sld l)) from hadd]
  simp only [ret1_some', bP_some, ev_ret, seqK_ret, endK_ret, z33a, consO_some, oneR_one, bQ_some, dataK_eq k hp (frz0 _ _)]

theorem frzT (hp : Hp) (x y : Value) : freeze deepN hp (.tup [.v x, .v y]) = some (.tup [.v x, .v y], hp) := _root_.id rfl

theorem progOpen_ev (O : Orc) (hO : O 53 [] = some tabPV) {R : Type} (n : Nat) (l : List UInt8) (hl : l.length ≤ 1000000) (hp : Hp) (k : PV → Hp → Option R) :
    callF tys fns O (run tys fns O (n + l.length + 13)) 13 [bstr (sld l)] hp k = k (.tup [bstr l, i 0]) hp := by
  have hs := progSeal_ev O hO (R := R) n l hl
  have hlen := sld_len l
  have hb : (!Nat.ble 4 (sld l).length) = false := lss_false (by omega)
  have hsub := int_sub64 (sld l).length 4 (by omega) (by omega)
  have hsl := slice_to ⟨[], 0, []⟩ (sld l) ((sld l).length - 4) (by omega)
  rw [sld_take] at hsl
  rw [call_data (fi := e13) rfl rfl (frz1 hp _), b13, show n + l.length + 13 = (n + l.length + 12) + 1 by omega, run_succ, c13_eq]
  simp only [ev_seq, r13_0a, r13_1a, len9, primBin_eq, bin_int, int_lss, ofNat_ble, hb, ret1_some', bP_some, seqK_normal, ev_cond, opd_tmp, alget, Nat.reduceEqDiff, reduceIte, bB_false, ev_skip, r13_3a, hsub, hsl, r13_4a, hs, bin_str, str_neq_refl, r13_6a,
    ev_ret, seqK_ret, endK_ret, z13a, consO_some, oneR_two, bQ_some, dataK_eq k hp (frzT _ _ _)]

theorem refOpen_ev (O : Orc) {R : Type} (n : Nat) (l : List UInt8) (hl : l.length ≤ 1000000) (hp : Hp) (k : PV → Hp → Option R) :
    callF tys fns O (run tys fns O (n + l.length + 13)) 17 [bstr (sld l)] hp k = k (.tup [bstr l, i 0]) hp := by
  have hs := refSeal_ev O (R := R) n l hl
  have hlen := sld_len l
  have hb : (!Nat.ble 0 ((sld l).length - 4)) = false := lss_false (by omega)
  have hsub := int_sub64 (sld l).length 4 (by omega) (by omega)
  have hsl := slice_to ⟨[], 0, []⟩ (sld l) ((sld l).length - 4) (by omega)
  rw [sld_take] at hsl
  rw [call_data (fi := e17) rfl rfl (frz1 hp _), b17, show n + l.length + 13 = (n + l.length + 12) + 1 by omega, run_succ, c17_eq]
  simp only [ev_seq, r17_0a, r17_1a, r17_2a, len9, primBin_eq, bin_int, int_lss, ofNat_ble, hb, ret1_some', bP_some, seqK_normal, ev_cond, opd_tmp, alget, Nat.reduceEqDiff, reduceIte, bB_false, ev_skip, hsub, hsl, r17_4a, hs, bin_str, str_neq_refl, r17_6a,
    ev_ret, seqK_ret, endK_ret, z17a, consO_some, oneR_two, bQ_some, dataK_eq k hp (frzT _ _ _)]
end Go.Ev
