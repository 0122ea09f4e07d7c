/- Numbers drawn from the source. -/
import Derived.Test.YtpahaogeenalpaaGreatEvSym
import Derived.Test.YtpahaogeenalpaaGreatEvReg
import Derived.Test.YtpahaogeenalpaaGreatEvTabs
import Derived.Test.YtpahaogeenalpaaGreatEvJc
set_option linter.all false
/- Numbers drawn from the source. -/
namespace Go.Ev
open Go.Proofs

abbrev num (z : Int) : PV := .v (.int .i64 z)
def IsL (lp : PV) (zs : List Int) : Prop := (lp = nl ∧ zs = []) ∨ ∃ ex, lp = .sl (zs.map fun z => [num z]) ex
abbrev src (lp : PV) (a : Nat) : Blk := ⟨[lp, i a], 2, false, 0⟩
/-- what a run that draws from the source leaves alone -/
def Fr (id : Nat) (hp hp' : Hp) : Prop := hp.next ≤ hp'.next ∧ ∀ j, j < hp.next → j ≠ id → hp'.get j = hp.get j
theorem Fr.refl (id : Nat) (hp : Hp) : Fr id hp hp := ⟨Nat.le_refl _, fun _ _ _ => rfl⟩
theorem Fr.trans {id : Nat} {a b c : Hp} (h1 : Fr id a b) (h2 : Fr id b c) : Fr id a c :=
  ⟨Nat.le_trans h1.1 h2.1, fun j hj hn => (h2.2 j (Nat.lt_of_lt_of_le hj h1.1) hn).trans (h1.2 j hj hn)⟩
theorem int_rem_any (a : Int) (b : Nat) (hb : b ≠ 0) (h2 : b ≤ 1000000) : intOp .rem .i64 .i64 a (.ofNat b) = some (num (a.tmod b)) := by
  have hb' : ieqb (.ofNat b) 0 = false := by
    cases b with
    | zero => exact absurd rfl hb
    | succ b => rfl
  show (match decide (IntKind.i64 = IntKind.i64) with | true => intBin .rem .i64 a (.ofNat b) | false => none) = _
  simp only [decide_true, intBin, hb']
  rfl
theorem fa25 (hp : Hp) (id f : Nat) (hf : f < 2) : primFieldAddr tys hp 25 f (some (.ptr id 0)) = some (.ptr id f, hp) := by
  match f, hf with
  | 0, _ => rfl
  | 1, _ => rfl
theorem ldL {hp : Hp} {id a : Nat} {lp : PV} (h : hp.get id = some (src lp a)) : primLoad tys hp 22 (some (.ptr id 0)) = some (lp, hp) := load_cell (i := y22) rfl rfl h rfl
theorem ldA {hp : Hp} {id a : Nat} {lp : PV} (h : hp.get id = some (src lp a)) : primLoad tys hp 3 (some (.ptr id 1)) = some (i a, hp) := load_cell (i := y3) rfl rfl h rfl
theorem stA {hp : Hp} {id a : Nat} {lp : PV} (h : hp.get id = some (src lp a)) (n : Nat) : primStore tys hp 3 (some (.ptr id 1)) (some (i n)) = some (.un, hp.put id (src lp n)) :=
  store_cell (i := y3) rfl rfl h rfl rfl rfl
theorem lenL (hp : Hp) (es : List (List PV)) (ex : Bool) : primLen tys hp 22 (some (.sl es ex)) = some (i es.length, hp) := _root_.id rfl
theorem lenN (hp : Hp) : primLen tys hp 22 (some nl) = some (i 0, hp) := _root_.id rfl
theorem ixL (hp : Hp) {es : List (List PV)} {ex : Bool} {n : Nat} {z : PV} (h : es[n]? = some [z]) : primIndexAddr tys hp 22 (some (.sl es ex)) (some (i n)) = some (.ep [z] 0, hp) := by
  show ret1 hp (idxSl 1 (.sl es ex) n) = _
  simp only [idxSl, h]
  rfl
theorem ldE (hp : Hp) (z : Int) : primLoad tys hp 3 (some (.ep [num z] 0)) = some (num z, hp) := _root_.id rfl
theorem logEp (i m : Nat) (lg : Lg) (n : Nat) (x : PV) (t : TypeId) (cs : List PV) (o : Nat) : logLoad tys i m lg n x (some (t, .ep cs o)) = some lg := _root_.id rfl
theorem get_put_frame (hp : Hp) (id : Nat) (b : Blk) : Fr id hp (hp.put id b) := by
  refine ⟨Nat.le_refl _, fun j _ hn => ?_⟩
  show Al.get (Al.set hp.blks id b) j = Al.get hp.blks j
  rw [Al.get_set']
  simp [hn]
theorem tmod_cases (z : Int) (m : Nat) (hm : 1 ≤ m) : (∃ x, x < m ∧ z.tmod (.ofNat m) = .ofNat x) ∨ (∃ y, y + 1 < m ∧ z.tmod (.ofNat m) = .negSucc y) := by
  cases z with
  | ofNat k => exact .inl ⟨k % m, Nat.mod_lt _ hm, rfl⟩
  | negSucc k =>
    have e : (Int.negSucc k).tmod (.ofNat m) = -(.ofNat ((k + 1) % m)) := rfl
    have hlt := Nat.mod_lt (k + 1) hm
    cases hr : (k + 1) % m with
    | zero => exact .inl ⟨0, hm, by rw [e, hr]; rfl⟩
    | succ y => exact .inr ⟨y, by omega, by rw [e, hr]; rfl⟩
theorem add_back (y m : Nat) (h : y + 1 < m) (h2 : m ≤ 1000) : intOp .add .i64 .i64 (.negSucc y) (.ofNat m) = some (i (m - (y + 1))) := by
  show some (PV.v (.int .i64 (wrapq .i64 (Int.negSucc y + Int.ofNat m)))) = _
  have : Int.negSucc y + Int.ofNat m = Int.ofNat (m - (y + 1)) := by
    rw [Int.negSucc_eq, Int.ofNat_eq_natCast, Int.ofNat_eq_natCast]; omega
  rw [this, wrapq64 (by omega)]
theorem opd_tmp (t : Nat) (tm : Tm) : opd (.tmp t) tm = Al.get tm t := _root_.id rfl
theorem next30 (O : Orc) {R : Type} (n : Nat) {hp : Hp} {id a m : Nat} {lp : PV} {zs : List Int} (hl : IsL lp zs) (hz : zs.length ≤ 60) (h : hp.get id = some (src lp a)) (hm : 1 ≤ m) (hm2 : m ≤ 1000) :
    ∃ x a' hp', x < m ∧ hp'.get id = some (src lp a') ∧ Fr id hp hp' ∧ ∀ k : PV → Hp → Option R, callF tys fnsO O (run tys fnsO O (n + 1)) 30 [.ptr id 0, i m] hp k = k (i x) hp' := by
  have hm1 : Nat.ble 1 m = true := Nat.ble_eq_true_of_le hm
  by_cases hlt : a < zs.length
  · rcases hl with ⟨rfl, rfl⟩ | ⟨ex, rfl⟩
    · simp at hlt
    have hb : Nat.ble zs.length a = false := by rw [Bool.eq_false_iff]; intro e; have := Nat.le_of_ble_eq_true e; omega
    obtain ⟨z, hzz⟩ : ∃ z, zs[a]? = some z := ⟨_, List.getElem?_eq_getElem hlt⟩
    have hix : ((zs.map fun z => [num z]))[a]? = some [num z] := by rw [List.getElem?_map, hzz]; rfl
    have hlen : (zs.map fun z => [num z]).length = zs.length := by simp
    have hr := int_rem_any z m (by omega) (by omega)
    generalize zs.map (fun z => [num z]) = es at *
    rcases tmod_cases z m hm with ⟨x, hx, ht⟩ | ⟨y, hy, ht⟩
    · rw [show ((m : Int)) = Int.ofNat m from rfl, ht] at hr
      have hs : ileb (.ofNat 0) (.ofNat x) = true := rfl
      refine ⟨x, a + 1, hp.put id (src (.sl es ex) (a + 1)), hx, get_put _ _ _ _ h, get_put_frame _ _ _, fun k => ?_⟩
      rw [call_own (fi := e30) rfl rfl, b30, run_succ, c30_eq]
      simp only [ev_seq, r30_0a, seqK_normal, r30_1a, primBin_eq, bin_int, int_lss, ofNat_ble, hm1, Bool.not_true, ret1_some', bP_some, want_ff, bWD_true, ranL_true, bLg_some, nil_ptr, fa25 _ _ _ (show 1 < 2 by decide), fa25 _ _ _ (show 0 < 2 by decide), ldA h, ldL h, logLoad_v, logLoad_sl, lenL, hlen, int_geq, hb, pick_f,
        ev_cond, opd_tmp, alget, Nat.reduceEqDiff, reduceIte, bB_false, ev_skip, r30_3a, ixL hp hix, ldE, logEp, hr, r30_4a, int_add64 a 1 (by omega), stA h, r30_5a, hs, r30_7b, ev_ret, seqK_ret, endK_ret, z30a, consO_some, oneR_one, bQ_some]
    · rw [show ((m : Int)) = Int.ofNat m from rfl, ht] at hr
      have hs : ileb (.ofNat 0) (.negSucc y) = false := rfl
      refine ⟨m - (y + 1), a + 1, hp.put id (src (.sl es ex) (a + 1)), by omega, get_put _ _ _ _ h, get_put_frame _ _ _, fun k => ?_⟩
      rw [call_own (fi := e30) rfl rfl, b30, run_succ, c30_eq]
      simp only [ev_seq, r30_0a, seqK_normal, r30_1a, primBin_eq, bin_int, int_lss, ofNat_ble, hm1, Bool.not_true, Bool.not_false, ret1_some', bP_some, want_ff, bWD_true, ranL_true, bLg_some, nil_ptr, fa25 _ _ _ (show 1 < 2 by decide), fa25 _ _ _ (show 0 < 2 by decide), ldA h, ldL h, logLoad_v, logLoad_sl, lenL, hlen, int_geq, hb, pick_f,
        ev_cond, opd_tmp, alget, Nat.reduceEqDiff, reduceIte, bB_false, bB_true, ev_skip, r30_3a, ixL hp hix, ldE, logEp, hr, r30_4a, int_add64 a 1 (by omega), stA h, r30_5a, hs, r30_6a, add_back y m hy (by omega), r30_7a, ev_ret, seqK_ret, endK_ret, z30a, consO_some, oneR_one, bQ_some]
  · have hb : Nat.ble zs.length a = true := Nat.ble_eq_true_of_le (by omega)
    refine ⟨0, a, hp, by omega, h, Fr.refl _ _, fun k => ?_⟩
    rw [call_own (fi := e30) rfl rfl, b30, run_succ, c30_eq]
    rcases hl with ⟨rfl, rfl⟩ | ⟨ex, rfl⟩
    · simp only [ev_seq, r30_0a, seqK_normal, r30_1a, primBin_eq, bin_int, int_lss, ofNat_ble, hm1, Bool.not_true, ret1_some', bP_some, want_ff, bWD_true, ranL_true, bLg_some, nil_ptr, fa25 _ _ _ (show 1 < 2 by decide), fa25 _ _ _ (show 0 < 2 by decide), ldA h, ldL h, logLoad_v, lenN, int_geq, show Nat.ble 0 a = true from Nat.ble_eq_true_of_le (Nat.zero_le _), pick_f,
        ev_cond, opd_tmp, alget, Nat.reduceEqDiff, reduceIte, bB_true, r30_2a, ev_ret, seqK_ret, endK_ret, z30a, consO_some, oneR_one, bQ_some]
    · have hlen : (zs.map fun z => [num z]).length = zs.length := by simp
      simp only [ev_seq, r30_0a, seqK_normal, r30_1a, primBin_eq, bin_int, int_lss, ofNat_ble, hm1, Bool.not_true, ret1_some', bP_some, want_ff, bWD_true, ranL_true, bLg_some, nil_ptr, fa25 _ _ _ (show 1 < 2 by decide), fa25 _ _ _ (show 0 < 2 by decide), ldA h, ldL h, logLoad_v, logLoad_sl, lenL, hlen, int_geq, hb, pick_f,
        ev_cond, opd_tmp, alget, Nat.reduceEqDiff, reduceIte, bB_true, r30_2a, ev_ret, seqK_ret, endK_ret, z30a, consO_some, oneR_one, bQ_some]
end Go.Ev

/- Names, words, labels and numbers of the source. -/
namespace Go.Ev
open Go.Proofs
theorem Fr.new (id : Nat) (hp : Hp) (b : Blk) : Fr id hp (hp.new b) :=
  ⟨Nat.le_succ _, fun j hj _ => Al.get_ne b hp.blks (by omega)⟩
theorem new_src {hp : Hp} {id : Nat} (hid : id < hp.next) (b : Blk) {x : Option Blk} (h : hp.get id = x) : (hp.new b).get id = x :=
  (Al.get_ne b hp.blks (by omega)).trans h
theorem Fr.kept {id : Nat} {hp hp' : Hp} {b : Blk} (f : Fr id (hp.new b) hp') (hid : id < hp.next) : hp'.get hp.next = some b :=
  (f.2 hp.next (Nat.lt_succ_self _) (by omega)).trans (get_new_next hp b)

/-! Label -/
abbrev labs : List PV := [(sb [65]), (sb [66]), (sb [67])]
theorem mk_labs (hp : Hp) : primBuildSlice tys hp 29 3 (some [(0, (sb [65])), (1, (sb [66])), (2, (sb [67]))]) = some (.row hp.next 0 3 3 1, hp.new ⟨labs, 1, false, 0⟩) := by kernel_rfl
theorem ix_labs (hp : Hp) (b x : Nat) (h : x < 3) : primIndexAddr tys hp 29 (some (.row b 0 3 3 1)) (some (i x)) = some (.ptr b x, hp) := by
  show ret1 hp (match Nat.blt x 3 with | false => none | true => some (.ptr b (0 + x * 1))) = _
  rw [show Nat.blt x 3 = true from Nat.ble_eq_true_of_le h, Nat.zero_add, Nat.mul_one]
  rfl
theorem pick38 (O : Orc) {R : Type} (n : Nat) {hp : Hp} {id a : Nat} {lp : PV} {zs : List Int} (hl : IsL lp zs) (hz : zs.length ≤ 60) (hid : id < hp.next) (h : hp.get id = some (src lp a)) :
    ∃ c a' hp', c ∈ labs ∧ hp'.get id = some (src lp a') ∧ Fr id hp hp' ∧ ∀ k : PV → Hp → Option R, callF tys fnsO O (run tys fnsO O (n + 2)) 38 [.ptr id 0] hp k = k c hp' := by
  obtain ⟨x, a', hp', hx, hs, hf, hn⟩ := next30 O (R := R) n hl hz (new_src hid ⟨labs, 1, false, 0⟩ h) (m := 3) (by omega) (by omega)
  have hk := hf.kept hid
  obtain ⟨c, hc⟩ : ∃ c, labs[x]? = some c := ⟨_, List.getElem?_eq_getElem hx⟩
  have hld : primLoad tys hp' 9 (some (.ptr hp.next x)) = some (c, hp') := load_cell (i := y9) rfl rfl hk hc
  refine ⟨c, a', hp', List.mem_of_getElem? hc, hs, (Fr.new _ _ _).trans hf, fun k => ?_⟩
  rw [call_own (fi := e38) rfl rfl, b38, show n + 2 = (n + 1) + 1 from rfl, run_succ, c38_eq]
  simp only [ev_seq, r38_0a, seqK_normal, r38_1a, mk_labs, bP_some, hn, ix_labs _ _ _ hx, hld, ev_ret, seqK_ret, endK_ret, z38a, consO_some, oneR_one, bQ_some]

/-! AtomName -/
abbrev nms : List PV := [(sb [97]), (sb [98]), (sb [111,107]), (sb [101,114,114,111,114])]
theorem mk_nms (hp : Hp) : primBuildSlice tys hp 29 4 (some [(0, (sb [97])), (1, (sb [98])), (2, (sb [111,107])), (3, (sb [101,114,114,111,114]))]) = some (.row hp.next 0 4 4 1, hp.new ⟨nms, 1, false, 0⟩) := by kernel_rfl
theorem ix_nms (hp : Hp) (b x : Nat) (h : x < 4) : primIndexAddr tys hp 29 (some (.row b 0 4 4 1)) (some (i x)) = some (.ptr b x, hp) := by
  show ret1 hp (match Nat.blt x 4 with | false => none | true => some (.ptr b (0 + x * 1))) = _
  rw [show Nat.blt x 4 = true from Nat.ble_eq_true_of_le h, Nat.zero_add, Nat.mul_one]
  rfl
theorem pick60 (O : Orc) {R : Type} (n : Nat) {hp : Hp} {id a : Nat} {lp : PV} {zs : List Int} (hl : IsL lp zs) (hz : zs.length ≤ 60) (hid : id < hp.next) (h : hp.get id = some (src lp a)) :
    ∃ c a' hp', c ∈ nms ∧ hp'.get id = some (src lp a') ∧ Fr id hp hp' ∧ ∀ k : PV → Hp → Option R, callF tys fnsO O (run tys fnsO O (n + 2)) 60 [.ptr id 0] hp k = k c hp' := by
  obtain ⟨x, a', hp', hx, hs, hf, hn⟩ := next30 O (R := R) n hl hz (new_src hid ⟨nms, 1, false, 0⟩ h) (m := 4) (by omega) (by omega)
  have hk := hf.kept hid
  obtain ⟨c, hc⟩ : ∃ c, nms[x]? = some c := ⟨_, List.getElem?_eq_getElem hx⟩
  have hld : primLoad tys hp' 9 (some (.ptr hp.next x)) = some (c, hp') := load_cell (i := y9) rfl rfl hk hc
  refine ⟨c, a', hp', List.mem_of_getElem? hc, hs, (Fr.new _ _ _).trans hf, fun k => ?_⟩
  rw [call_own (fi := e60) rfl rfl, b60, show n + 2 = (n + 1) + 1 from rfl, run_succ, c60_eq]
  simp only [ev_seq, r60_0a, seqK_normal, r60_1a, mk_nms, bP_some, hn, ix_nms _ _ _ hx, hld, ev_ret, seqK_ret, endK_ret, z60a, consO_some, oneR_one, bQ_some]

/-! Word -/
abbrev wrds : List PV := [(.v (.string ⟨#[]⟩)), (sb [115]), (sb [120,32,121]), (sb [97])]
theorem mk_wrds (hp : Hp) : primBuildSlice tys hp 29 4 (some [(0, (.v (.string ⟨#[]⟩))), (1, (sb [115])), (2, (sb [120,32,121])), (3, (sb [97]))]) = some (.row hp.next 0 4 4 1, hp.new ⟨wrds, 1, false, 0⟩) := by kernel_rfl
theorem ix_wrds (hp : Hp) (b x : Nat) (h : x < 4) : primIndexAddr tys hp 29 (some (.row b 0 4 4 1)) (some (i x)) = some (.ptr b x, hp) := by
  show ret1 hp (match Nat.blt x 4 with | false => none | true => some (.ptr b (0 + x * 1))) = _
  rw [show Nat.blt x 4 = true from Nat.ble_eq_true_of_le h, Nat.zero_add, Nat.mul_one]
  rfl
theorem pick62 (O : Orc) {R : Type} (n : Nat) {hp : Hp} {id a : Nat} {lp : PV} {zs : List Int} (hl : IsL lp zs) (hz : zs.length ≤ 60) (hid : id < hp.next) (h : hp.get id = some (src lp a)) :
    ∃ c a' hp', c ∈ wrds ∧ hp'.get id = some (src lp a') ∧ Fr id hp hp' ∧ ∀ k : PV → Hp → Option R, callF tys fnsO O (run tys fnsO O (n + 2)) 62 [.ptr id 0] hp k = k c hp' := by
  obtain ⟨x, a', hp', hx, hs, hf, hn⟩ := next30 O (R := R) n hl hz (new_src hid ⟨wrds, 1, false, 0⟩ h) (m := 4) (by omega) (by omega)
  have hk := hf.kept hid
  obtain ⟨c, hc⟩ : ∃ c, wrds[x]? = some c := ⟨_, List.getElem?_eq_getElem hx⟩
  have hld : primLoad tys hp' 9 (some (.ptr hp.next x)) = some (c, hp') := load_cell (i := y9) rfl rfl hk hc
  refine ⟨c, a', hp', List.mem_of_getElem? hc, hs, (Fr.new _ _ _).trans hf, fun k => ?_⟩
  rw [call_own (fi := e62) rfl rfl, b62, show n + 2 = (n + 1) + 1 from rfl, run_succ, c62_eq]
  simp only [ev_seq, r62_0a, seqK_normal, r62_1a, mk_wrds, bP_some, hn, ix_wrds _ _ _ hx, hld, ev_ret, seqK_ret, endK_ret, z62a, consO_some, oneR_one, bQ_some]

/-! Number -/
abbrev nmbs : List PV := [(i 0), (i 1), (j 0), (i 2), (i 3), (j 1), (i 7), (j 9223372036854775807), (i 9223372036854775807), (i 10)]
theorem mk_nmbs (hp : Hp) : primBuildSlice tys hp 151 10 (some [(0, (i 0)), (1, (i 1)), (2, (j 0)), (3, (i 2)), (4, (i 3)), (5, (j 1)), (6, (i 7)), (7, (j 9223372036854775807)), (8, (i 9223372036854775807)), (9, (i 10))]) = some (.row hp.next 0 10 10 1, hp.new ⟨nmbs, 1, false, 0⟩) := by kernel_rfl
theorem ix_nmbs (hp : Hp) (b x : Nat) (h : x < 10) : primIndexAddr tys hp 151 (some (.row b 0 10 10 1)) (some (i x)) = some (.ptr b x, hp) := by
  show ret1 hp (match Nat.blt x 10 with | false => none | true => some (.ptr b (0 + x * 1))) = _
  rw [show Nat.blt x 10 = true from Nat.ble_eq_true_of_le h, Nat.zero_add, Nat.mul_one]
  rfl
theorem pick58 (O : Orc) {R : Type} (n : Nat) {hp : Hp} {id a : Nat} {lp : PV} {zs : List Int} (hl : IsL lp zs) (hz : zs.length ≤ 60) (hid : id < hp.next) (h : hp.get id = some (src lp a)) :
    ∃ c a' hp', c ∈ nmbs ∧ hp'.get id = some (src lp a') ∧ Fr id hp hp' ∧ ∀ k : PV → Hp → Option R, callF tys fnsO O (run tys fnsO O (n + 2)) 58 [.ptr id 0] hp k = k c hp' := by
  obtain ⟨x, a', hp', hx, hs, hf, hn⟩ := next30 O (R := R) n hl hz (new_src hid ⟨nmbs, 1, false, 0⟩ h) (m := 10) (by omega) (by omega)
  have hk := hf.kept hid
  obtain ⟨c, hc⟩ : ∃ c, nmbs[x]? = some c := ⟨_, List.getElem?_eq_getElem hx⟩
  have hld : primLoad tys hp' 2 (some (.ptr hp.next x)) = some (c, hp') := load_cell (i := y2) rfl rfl hk hc
  refine ⟨c, a', hp', List.mem_of_getElem? hc, hs, (Fr.new _ _ _).trans hf, fun k => ?_⟩
  rw [call_own (fi := e58) rfl rfl, b58, show n + 2 = (n + 1) + 1 from rfl, run_succ, c58_eq]
  simp only [ev_seq, r58_0a, seqK_normal, r58_1a, mk_nmbs, bP_some, hn, ix_nmbs _ _ _ hx, hld, ev_ret, seqK_ret, endK_ret, z58a, consO_some, oneR_one, bQ_some]
end Go.Ev

/- A grown slice as a value of its own. -/
namespace Go.Ev
open Go.Proofs
open D (slOf)
/-- cells that are values of their own already -/
def Still (c : PV) : Prop := ∀ n hp, freeze (n + 1) hp c = some (c, hp)
theorem still_v (x : Value) : Still (.v x) := fun _ _ => rfl
theorem still_sl (es : List (List PV)) (ex : Bool) : Still (.sl es ex) := fun _ _ => rfl
theorem freezeL_still : ∀ (l : List PV) (n : Nat) (hp : Hp), (∀ c ∈ l, Still c) → l.length ≤ n → freezeL (n + 1) hp l = some (l, hp)
  | [], n, hp, _, _ => rfl
  | c :: l, n, hp, h, hl => by
    cases n with
    | zero => simp at hl
    | succ n =>
      show (match freeze (n + 1) hp c with | none => none | some (y, h) => match freezeL (n + 1) h l with | none => none | some (ys, h') => some (y :: ys, h')) = _
      rw [h c (by simp) n hp]
      simp only []
      rw [freezeL_still l n hp (fun c hc => h c (by simp [hc])) (by simpa using hl)]
theorem takeN_app {α : Type} : ∀ (e r : List α), takeN (e ++ r) e.length = some e
  | [], r => by cases r <;> rfl
  | x :: e, r => by
    show (match takeN (e ++ r) e.length with | none => none | some l => some (x :: l)) = _
    rw [takeN_app e r]
theorem group_flatten {sz : Nat} : ∀ (es : List (List PV)), (∀ e ∈ es, e.length = sz) → group sz es.length es.flatten = some es
  | [], _ => rfl
  | e :: es, h => by
    have he := h e (by simp)
    show (match takeN (e ++ es.flatten) sz with | none => none | some e' => match group sz es.length ((e ++ es.flatten).drop sz) with | none => none | some r => some (e' :: r)) = _
    rw [← he, takeN_app]
    simp only [List.drop_left]
    rw [he, group_flatten es (fun e h' => h e (by simp [h']))]
theorem AccS.frz {sz : Nat} {hp : Hp} {x : PV} {es : List (List PV)} (h : AccS sz hp x es) (hs : ∀ e ∈ es, ∀ c ∈ e, Still c) (n : Nat) (hl : es.flatten.length ≤ n) (hne : es = [] → x = nl) :
    ∃ hp', freeze (n + 2) hp x = some (slOf es, hp') ∧ hp'.next = hp.next ∧ hp'.maps = hp.maps ∧ ∀ j, (∀ o l c s, x ≠ .row j o l c s) → hp'.get j = hp.get j := by
  obtain ⟨hsz, ⟨rfl, rfl⟩ | ⟨id, rfl, hid, hg⟩⟩ := h
  · exact ⟨hp, rfl, rfl, rfl, fun _ _ => rfl⟩
  · have hlen := flatten_len hsz
    cases es with
    | nil => cases hne rfl
    | cons e r =>
      generalize hes : e :: r = es at *
      refine ⟨hp.put id ⟨es.flatten, sz, true, Nat.max 0 (0 + es.length * sz)⟩, ?_, rfl, rfl, fun j hj => ?_⟩
      · show (match hp.get id with
          | none => none
          | some b => match cut b.cells 0 (es.length * b.sz) with
            | none => none
            | some cs => match freezeL (n + 1) (hp.put id ⟨b.cells, b.sz, b.loose, Nat.max b.frz (0 + es.length * b.sz)⟩) cs with
              | none => none
              | some (l, h) => match group b.sz es.length l with
                | none => none
                | some es' => some (PV.sl es' (Nat.beq es.length es.length && (!b.loose || Nat.blt (0 + es.length * b.sz) b.cells.length)), h)) = _
        rw [hg]
        simp only []
        rw [cut_all _ _ hlen]
        simp only []
        rw [freezeL_still _ _ _ (by
          intro c hc
          obtain ⟨e', he', hc'⟩ := List.mem_flatten.1 hc
          exact hs e' he' c hc') hl]
        simp only []
        rw [group_flatten es hsz]
        simp only [Nat.zero_add, hlen]
        rw [show Nat.blt (es.length * sz) (es.length * sz) = false from by rw [Bool.eq_false_iff]; intro e; exact Nat.lt_irrefl _ (Nat.le_of_ble_eq_true e)]
        rw [← hes]
        simp [slOf]
      · show Al.get (Al.set hp.blks id _) j = Al.get hp.blks j
        rw [Al.get_set', if_neg]
        intro e
        subst e
        exact hj _ _ _ _ rfl
end Go.Ev
