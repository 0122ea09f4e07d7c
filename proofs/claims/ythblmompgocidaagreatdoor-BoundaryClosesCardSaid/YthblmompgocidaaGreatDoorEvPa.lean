/- Numbers drawn from the source. -/
import Derived.Test.YthblmompgocidaaGreatDoorEvSym
import Derived.Test.YthblmompgocidaaGreatDoorEvSub
import Derived.Test.YthblmompgocidaaGreatDoorEvReg
import Derived.Test.YthblmompgocidaaGreatDoorEvVals
set_option linter.all false
/- Numbers drawn from the source. -/
namespace Go.Ev
open Go.Proofs

abbrev num (z : Int) : PV := .v (.int .i64 z)
def IsL (lp : PV) (zs : List Int) : Prop := (lp = nl ∧ zs = []) ∨ ∃ ex, lp = .sl (zs.map fun z => [num z]) ex
abbrev src (lp : PV) (a : Nat) : Blk := ⟨[lp, i a], 2, false, 0, 33⟩
theorem int_rem_any (a : Int) (b : Nat) (hb : b ≠ 0) (h2 : b ≤ 1000000) : intOp .rem .i64 .i64 a (.ofNat b) = some (num (a.tmod b)) := by
  have hb' : ieqb (.ofNat b) 0 = false := by
    cases b with
    | zero => exact absurd rfl hb
    | succ b => rfl
  show (match decide (IntKind.i64 = IntKind.i64) with | true => intBin .rem .i64 a (.ofNat b) | false => none) = _
  simp only [decide_true, intBin, hb']
  rfl
theorem fa33 (hp : Hp) (id f : Nat) (hf : f < 2) : primFieldAddr tys hp 33 f (some (.ptr id 0)) = some (.ptr id f, hp) := by
  match f, hf with
  | 0, _ => rfl
  | 1, _ => rfl
theorem ldL {hp : Hp} {id a : Nat} {lp : PV} (h : hp.get id = some (src lp a)) : primLoad tys hp 22 (some (.ptr id 0)) = some (lp, hp) := load_cell (i := y22) rfl rfl h rfl
theorem ldA {hp : Hp} {id a : Nat} {lp : PV} (h : hp.get id = some (src lp a)) : primLoad tys hp 3 (some (.ptr id 1)) = some (i a, hp) := load_cell (i := y3) rfl rfl h rfl
theorem stA {hp : Hp} {id a : Nat} {lp : PV} (h : hp.get id = some (src lp a)) (n : Nat) : primStore tys hp 3 (some (.ptr id 1)) (some (i n)) = some (.un, hp.put id (src lp n)) :=
  store_cell (i := y3) rfl rfl h rfl rfl rfl
theorem lenL (hp : Hp) (es : List (List PV)) (ex : Bool) : primLen tys hp 22 (some (.sl es ex)) = some (i es.length, hp) := _root_.id rfl
theorem lenN (hp : Hp) : primLen tys hp 22 (some nl) = some (i 0, hp) := _root_.id rfl
theorem ixL (hp : Hp) {es : List (List PV)} {ex : Bool} {n : Nat} {z : PV} (h : es[n]? = some [z]) : primIndexAddr tys hp 22 (some (.sl es ex)) (some (i n)) = some (.ep [z] 0, hp) := by
  show ret1 hp (idxSl 1 (.sl es ex) n) = _
  simp only [idxSl, h]
  rfl
theorem ldE (hp : Hp) (z : Int) : primLoad tys hp 3 (some (.ep [num z] 0)) = some (num z, hp) := _root_.id rfl
theorem logEp (i m : Nat) (lg : Lg) (n : Nat) (x : PV) (t : TypeId) (cs : List PV) (o : Nat) : logLoad tys i m lg n x (some (t, .ep cs o)) = some lg := _root_.id rfl
theorem tmod_cases (z : Int) (m : Nat) (hm : 1 ≤ m) : (∃ x, x < m ∧ z.tmod (.ofNat m) = .ofNat x) ∨ (∃ y, y + 1 < m ∧ z.tmod (.ofNat m) = .negSucc y) := by
  cases z with
  | ofNat k => exact .inl ⟨k % m, Nat.mod_lt _ hm, rfl⟩
  | negSucc k =>
    have e : (Int.negSucc k).tmod (.ofNat m) = -(.ofNat ((k + 1) % m)) := rfl
    have hlt := Nat.mod_lt (k + 1) hm
    cases hr : (k + 1) % m with
    | zero => exact .inl ⟨0, hm, by rw [e, hr]; rfl⟩
    | succ y => exact .inr ⟨y, by omega, by rw [e, hr]; rfl⟩
theorem add_back (y m : Nat) (h : y + 1 < m) (h2 : m ≤ 1000) : intOp .add .i64 .i64 (.negSucc y) (.ofNat m) = some (i (m - (y + 1))) := by
  show some (PV.v (.int .i64 (wrapq .i64 (Int.negSucc y + Int.ofNat m)))) = _
  have : Int.negSucc y + Int.ofNat m = Int.ofNat (m - (y + 1)) := by
    rw [Int.negSucc_eq, Int.ofNat_eq_natCast, Int.ofNat_eq_natCast]; omega
  rw [this, wrapq64 (by omega)]
theorem opd_tmp (t : Nat) (tm : Tm) : opd (.tmp t) tm = Al.get tm t := _root_.id rfl
theorem next15 (O : Orc) {R : Type} (n : Nat) {hp : Hp} {id a m : Nat} {lp : PV} {zs : List Int} (hl : IsL lp zs) (hz : zs.length ≤ 70) (h : hp.get id = some (src lp a)) (hm : 1 ≤ m) (hm2 : m ≤ 1000) :
    ∃ x a' hp', x < m ∧ hp'.get id = some (src lp a') ∧ ∀ k : PV → Hp → Option R, bodyF tys e15 (run tys .lf O (n + 1)) [.ptr id 0, i m] hp k = k (i x) hp' := by
  have hm1 : Nat.ble 1 m = true := Nat.ble_eq_true_of_le hm
  by_cases hlt : a < zs.length
  · rcases hl with ⟨rfl, rfl⟩ | ⟨ex, rfl⟩
    · simp at hlt
    have hb : Nat.ble zs.length a = false := by rw [Bool.eq_false_iff]; intro e; have := Nat.le_of_ble_eq_true e; omega
    obtain ⟨z, hzz⟩ : ∃ z, zs[a]? = some z := ⟨_, List.getElem?_eq_getElem hlt⟩
    have hix : ((zs.map fun z => [num z]))[a]? = some [num z] := by rw [List.getElem?_map, hzz]; rfl
    have hlen : (zs.map fun z => [num z]).length = zs.length := by simp
    have hr := int_rem_any z m (by omega) (by omega)
    generalize zs.map (fun z => [num z]) = es at *
    rcases tmod_cases z m hm with ⟨x, hx, ht⟩ | ⟨y, hy, ht⟩
    · rw [show ((m : Int)) = Int.ofNat m from rfl, ht] at hr
      have hs : ileb (.ofNat 0) (.ofNat x) = true := rfl
      refine ⟨x, a + 1, hp.put id (src (.sl es ex) (a + 1)), hx, get_put _ _ _ _ h, fun k => ?_⟩
      rw [b15, run_succ, c15_eq]
      simp only [ev_seq, r15_0a, seqK_normal, r15_1a, primBin_eq, bin_int, int_lss, ofNat_ble, hm1, Bool.not_true, ret1_some', bP_some, want_ff, bWD_true, ranL_true, bLg_some, nil_ptr, fa33 _ _ _ (show 1 < 2 by decide), fa33 _ _ _ (show 0 < 2 by decide), ldA h, ldL h, logLoad_v, logLoad_sl, lenL, hlen, int_geq, hb, pick_f,
        ev_cond, opd_tmp, alget, Nat.reduceEqDiff, reduceIte, bB_false, ev_skip, r15_3a, ixL hp hix, ldE, logEp, hr, r15_4a, int_add64 a 1 (by omega), stA h, r15_5a, hs, r15_7b, ev_ret, seqK_ret, endK_ret, z15a, consO_some, oneR_one, bQ_some]
    · rw [show ((m : Int)) = Int.ofNat m from rfl, ht] at hr
      have hs : ileb (.ofNat 0) (.negSucc y) = false := rfl
      refine ⟨m - (y + 1), a + 1, hp.put id (src (.sl es ex) (a + 1)), by omega, get_put _ _ _ _ h, fun k => ?_⟩
      rw [b15, run_succ, c15_eq]
      simp only [ev_seq, r15_0a, seqK_normal, r15_1a, primBin_eq, bin_int, int_lss, ofNat_ble, hm1, Bool.not_true, Bool.not_false, ret1_some', bP_some, want_ff, bWD_true, ranL_true, bLg_some, nil_ptr, fa33 _ _ _ (show 1 < 2 by decide), fa33 _ _ _ (show 0 < 2 by decide), ldA h, ldL h, logLoad_v, logLoad_sl, lenL, hlen, int_geq, hb, pick_f,
        ev_cond, opd_tmp, alget, Nat.reduceEqDiff, reduceIte, bB_false, bB_true, ev_skip, r15_3a, ixL hp hix, ldE, logEp, hr, r15_4a, int_add64 a 1 (by omega), stA h, r15_5a, hs, r15_6a, add_back y m hy (by omega), r15_7a, ev_ret, seqK_ret, endK_ret, z15a, consO_some, oneR_one, bQ_some]
  · have hb : Nat.ble zs.length a = true := Nat.ble_eq_true_of_le (by omega)
    refine ⟨0, a, hp, by omega, h, fun k => ?_⟩
    rw [b15, run_succ, c15_eq]
    rcases hl with ⟨rfl, rfl⟩ | ⟨ex, rfl⟩
    · simp only [ev_seq, r15_0a, seqK_normal, r15_1a, primBin_eq, bin_int, int_lss, ofNat_ble, hm1, Bool.not_true, ret1_some', bP_some, want_ff, bWD_true, ranL_true, bLg_some, nil_ptr, fa33 _ _ _ (show 1 < 2 by decide), fa33 _ _ _ (show 0 < 2 by decide), ldA h, ldL h, logLoad_v, lenN, int_geq, show Nat.ble 0 a = true from Nat.ble_eq_true_of_le (Nat.zero_le _), pick_f,
        ev_cond, opd_tmp, alget, Nat.reduceEqDiff, reduceIte, bB_true, r15_2a, ev_ret, seqK_ret, endK_ret, z15a, consO_some, oneR_one, bQ_some]
    · have hlen : (zs.map fun z => [num z]).length = zs.length := by simp
      simp only [ev_seq, r15_0a, seqK_normal, r15_1a, primBin_eq, bin_int, int_lss, ofNat_ble, hm1, Bool.not_true, ret1_some', bP_some, want_ff, bWD_true, ranL_true, bLg_some, nil_ptr, fa33 _ _ _ (show 1 < 2 by decide), fa33 _ _ _ (show 0 < 2 by decide), ldA h, ldL h, logLoad_v, logLoad_sl, lenL, hlen, int_geq, hb, pick_f,
        ev_cond, opd_tmp, alget, Nat.reduceEqDiff, reduceIte, bB_true, r15_2a, ev_ret, seqK_ret, endK_ret, z15a, consO_some, oneR_one, bQ_some]
/-- a list of numbers, as it came -/
def SrcL (lp : PV) : Prop := ∃ zs, IsL lp zs ∧ zs.length ≤ 70
theorem src_ok {lp : PV} (h : SrcL lp) (a : Nat) : stOk (src lp a) = true := by
  obtain ⟨zs, ⟨rfl, _⟩ | ⟨ex, rfl⟩, _⟩ := h
  · rfl
  · rfl
theorem lfOk [Env] : FTOk Tryz.prog .lf := fun _ _ h => by cases h
/-- the number that is drawn -/
theorem next_ok [Env] {lp : PV} (h : SrcL lp) (a m : Nat) (hm : 1 ≤ m) (hm2 : m ≤ 1000) : ∃ x a', x < m ∧ KnownS Tryz.prog 15 33 [lp, i a] [i m] (i x) [lp, i a'] := by
  have h' := h
  obtain ⟨zs, hl, hz⟩ := h
  have hg : (startS 33 [lp, i a]).get 0 = some (src lp a) := rfl
  obtain ⟨x, a', hp', h1, h2, h3⟩ := next15 (R := PV) (fun _ _ => none) 0 hl hz hg hm hm2
  exact ⟨x, a', h1, knownS_run0 (b := src lp a') tOk mixed lfOk (fun _ _ _ h => by cases h) e15ok h3 rfl h2 (src_ok h' a') rfl⟩
end Go.Ev

/- Shapes filled with data. -/
namespace Go.Ev
open Go.Proofs
def subP (σ : Nat → PV) : Page → Page
  | [] => []
  | (es, q) :: r => (subL σ es, sub σ q) :: subP σ r
def subB (σ : Nat → PV) : Book → Book
  | [] => []
  | (g, p) :: r => (g, subP σ p) :: subB σ r
theorem pageOk_sub {E : Env} {σ : Nat → PV} (hσ : Fit σ) {P : Program} {g : Nat} : ∀ {p : Page}, @PageOk E P g (subP σ p) → @PageOk (E.put σ hσ.form) P g p
  | [], _ => trivial
  | (es, q) :: r, h => ⟨KnownX.unsub hσ h.1, pageOk_sub hσ h.2⟩
theorem bookOk_sub {E : Env} {σ : Nat → PV} (hσ : Fit σ) {P : Program} : ∀ {B : Book}, @BookOk E P (subB σ B) → @BookOk (E.put σ hσ.form) P B
  | [], _ => trivial
  | (g, p) :: r, h => ⟨pageOk_sub hσ h.1, bookOk_sub hσ h.2⟩
theorem comes_use {E : Env} {σ : Nat → PV} (hσ : Fit σ) {FT : Fns} (hF : ∀ [Env], FTOk Tryz.prog FT) {f : Nat} {fi : FI} (hf : ∀ [Env], FIOk Tryz.prog f fi) {B : Book} {n : Nat} {ds : List PV} {q : PV}
    (h : comesF tys FT B n fi ds q = true) (hB : @BookOk E Tryz.prog (subB σ B)) : @Known E Tryz.prog f (subL σ ds) (sub σ q) :=
  (Known.sub hσ).1 (@known_ofF (E.put σ hσ.form) _ _ (@tOk (E.put σ hσ.form)) mixed _ (@hF (E.put σ hσ.form)) _ (bookOk_sub hσ hB) _ _ (@hf (E.put σ hσ.form)) _ _ _ h)
theorem comesS_use {E : Env} {σ : Nat → PV} (hσ : Fit σ) {FT : Fns} (hF : ∀ [Env], FTOk Tryz.prog FT) {f : Nat} {fi : FI} (hf : ∀ [Env], FIOk Tryz.prog f fi) {B : Book} {n ty : Nat} {cs ds : List PV} {q : PV} {cs' : List PV}
    (h : comesSF tys FT B n fi ty cs ds q cs' = true) (hB : @BookOk E Tryz.prog (subB σ B)) : @KnownS E Tryz.prog f ty (subL σ cs) (subL σ ds) (sub σ q) (subL σ cs') :=
  (KnownS.sub hσ).1 (@knownS_ofF (E.put σ hσ.form) _ _ (@tOk (E.put σ hσ.form)) mixed _ (@hF (E.put σ hσ.form)) _ (bookOk_sub hσ hB) _ _ (@hf (E.put σ hσ.form)) _ _ _ _ _ _ h)
namespace B
section
variable [E : Env]
theorem cx_use {σ : Nat → PV} (hσ : Fit σ) {f : Nat} (hf : ∀ [Env], FIOk Tryz.prog f (fiOf f)) {B : Book} {ds : List PV} {q : PV} (h : CX f B ds q = true) (hB : BookOk Tryz.prog (subB σ B)) : Known Tryz.prog f (subL σ ds) (sub σ q) := comes_use hσ fnsXOk hf h hB
theorem cl_use {σ : Nat → PV} (hσ : Fit σ) {f : Nat} (hf : ∀ [Env], FIOk Tryz.prog f (fiOf f)) {B : Book} {ds : List PV} {q : PV} (h : CL f B ds q = true) (hB : BookOk Tryz.prog (subB σ B)) : Known Tryz.prog f (subL σ ds) (sub σ q) := comes_use hσ fnsLOk hf h hB
theorem cw_use {σ : Nat → PV} (hσ : Fit σ) {f : Nat} (hf : ∀ [Env], FIOk Tryz.prog f (fiOf f)) {B : Book} {ds : List PV} {q : PV} (h : CW f B ds q = true) (hB : BookOk Tryz.prog (subB σ B)) : Known Tryz.prog f (subL σ ds) (sub σ q) := comes_use hσ fnsWOk hf h hB
theorem ct_use {σ : Nat → PV} (hσ : Fit σ) {f : Nat} (hf : ∀ [Env], FIOk Tryz.prog f (fiOf f)) {B : Book} {cs ds : List PV} {q : PV} {cs' : List PV} (h : CT f B cs ds q cs' = true) (hB : BookOk Tryz.prog (subB σ B)) :
    KnownS Tryz.prog f 33 (subL σ cs) (subL σ ds) (sub σ q) (subL σ cs') := comesS_use hσ (@lfOk) hf h hB
end
/-- what a cell of a datum may be -/
def Cell (c : PV) : Prop := clean c = true ∧ ((∃ x, c = .v x) ∨ ∃ es ex, c = .sl es ex)
theorem cell_v (x : Value) : Cell (.v x) := ⟨rfl, .inl ⟨x, rfl⟩⟩
def cellB (c : PV) : Bool := clean c && match c with
  | .v _ => true
  | .sl _ _ => true
  | _ => false
theorem cell_of {c : PV} (h : cellB c = true) : Cell c := by
  unfold cellB at h
  rw [Bool.and_eq_true] at h
  refine ⟨h.1, ?_⟩
  cases c <;> first | exact .inl ⟨_, rfl⟩ | exact .inr ⟨_, _, rfl⟩ | (simp at h)
theorem cells_of {l : List PV} (h : l.all cellB = true) : ∀ c ∈ l, Cell c := fun c hc => cell_of (List.all_eq_true.1 h c hc)
def pick (l : List PV) (n : Nat) : PV := match l[n]? with
  | some c => c
  | none => NL
theorem fit_pick {l : List PV} (h : ∀ c ∈ l, Cell c) : Fit (pick l) := by
  have : ∀ n, Cell (pick l n) := by
    intro n
    unfold pick
    cases hc : l[n]? with
    | none => exact cell_v _
    | some c => exact h c (List.mem_of_getElem? hc)
  exact ⟨fun n => (this n).2, fun n => (this n).1⟩
theorem fit0 : Fit (pick []) := fit_pick (by simp)
theorem pick_at {l : List PV} {n : Nat} {c : PV} (h : l[n]? = some c) : pick l n = c := by unfold pick; rw [h]
theorem subL_ur (σ : Nat → PV) : ∀ (n a : Nat), subL σ (ur a n) = (List.range n).map fun k => σ (a + k)
  | 0, a => rfl
  | n + 1, a => by
    show sub σ (.unk a) :: subL σ (ur (a + 1) n) = _
    rw [subL_ur σ n (a + 1), List.range_succ_eq_map, sub]
    simp only [List.map_cons, List.map_map, Nat.add_zero]
    congr 1
    apply List.map_congr_left
    intro k _
    simp only [Function.comp]
    congr 1
    omega
/-- unknown cells, filled with what stands there -/
theorem subL_at {l : List PV} {pre k post : List PV} (hl : l = pre ++ (k ++ post)) {a n : Nat} (ha : a = pre.length) (hk : k.length = n) : subL (pick l) (ur a n) = k := by
  subst hl
  rw [subL_ur]
  apply List.ext_getElem?
  intro m
  rw [List.getElem?_map]
  by_cases hm : m < n
  · rw [List.getElem?_range hm]
    have : k[m]? = some (k[m]'(by omega)) := List.getElem?_eq_getElem (by omega)
    rw [this]
    simp only [Option.map_some, Option.some.injEq]
    apply pick_at
    rw [ha, List.getElem?_append_right (by omega), show pre.length + m - pre.length = m by omega, List.getElem?_append_left (by omega), this]
  · rw [List.getElem?_eq_none (by simp; omega), List.getElem?_eq_none (by omega)]; rfl
def Len (s : Nat) (ks : List (List PV)) : Prop := ∀ k ∈ ks, k.length = s
theorem len_flat {s : Nat} : ∀ {ks : List (List PV)}, Len s ks → ks.flatten.length = s * ks.length
  | [], _ => rfl
  | k :: ks, h => by
    have h1 := h k (by simp)
    have h2 := len_flat (ks := ks) fun x hx => h x (by simp [hx])
    simp only [List.flatten_cons, List.length_append, List.length_cons, h1, h2]
    rw [Nat.mul_succ, Nat.add_comm]
theorem subE_us {s : Nat} {l : List PV} : ∀ {mid : List (List PV)} {pre post : List PV} {b n : Nat}, l = pre ++ (mid.flatten ++ post) → b = pre.length → n = mid.length → Len s mid → subE (pick l) (us s b n) = mid
  | [], _, _, _, _, _, _, hn, _ => by subst hn; rfl
  | k :: mid, pre, post, b, _, hl, hb, hn, h => by
    subst hn
    have h1 := h k (by simp)
    show subL _ (ur b s) :: subE _ (us s (b + s) mid.length) = _
    congr 1
    · exact subL_at (pre := pre) (k := k) (post := mid.flatten ++ post) (by rw [hl, List.flatten_cons, List.append_assoc]) hb h1
    · exact subE_us (pre := pre ++ k) (post := post) (by rw [hl, List.flatten_cons, List.append_assoc, List.append_assoc]) (by simp [hb, h1]) rfl fun x hx => h x (by simp [hx])
theorem sub_slO (σ : Nat → PV) (es : List (List PV)) : sub σ (slO es) = slO (subE σ es) := by
  cases es with
  | nil => rfl
  | cons e r => show PV.sl (subE σ (e :: r)) false = slO (subE σ (e :: r)); rw [subE]; rfl
theorem sub_v (σ : Nat → PV) (x : Value) : sub σ (.v x) = .v x := by rw [sub]
theorem sub_agg (σ : Nat → PV) (cs : List PV) : sub σ (.agg cs) = .agg (subL σ cs) := by rw [sub]
theorem sub_tup (σ : Nat → PV) (cs : List PV) : sub σ (.tup cs) = .tup (subL σ cs) := by rw [sub]
theorem sub_unk (σ : Nat → PV) (n : Nat) : sub σ (.unk n) = σ n := by rw [sub]
theorem subL_cons (σ : Nat → PV) (c : PV) (cs : List PV) : subL σ (c :: cs) = sub σ c :: subL σ cs := by rw [subL]
theorem subL_nil (σ : Nat → PV) : subL σ [] = [] := by rw [subL]
theorem subE_cons (σ : Nat → PV) (c : List PV) (cs : List (List PV)) : subE σ (c :: cs) = subL σ c :: subE σ cs := by rw [subE]
theorem subE_nil (σ : Nat → PV) : subE σ [] = [] := by rw [subE]
theorem subE_map (σ : Nat → PV) : ∀ (l : List (List PV)), subE σ l = l.map (subL σ)
  | [] => rfl
  | c :: l => by rw [subE_cons, subE_map σ l]; rfl
theorem subL_map (σ : Nat → PV) : ∀ (l : List PV), subL σ l = l.map (sub σ)
  | [] => rfl
  | c :: l => by rw [subL_cons, subL_map σ l]; rfl
theorem sub_cell {σ : Nat → PV} {c : PV} (h : Cell c) : sub σ c = c := sub_clean σ c h.1
theorem subL_cells {σ : Nat → PV} : ∀ {l : List PV}, (∀ c ∈ l, Cell c) → subL σ l = l
  | [], _ => rfl
  | c :: l, h => by rw [subL, sub_cell (h c (by simp)), subL_cells fun d hd => h d (by simp [hd])]
theorem subE_cells {σ : Nat → PV} : ∀ {l : List (List PV)}, (∀ e ∈ l, ∀ c ∈ e, Cell c) → subE σ l = l
  | [], _ => rfl
  | c :: l, h => by rw [subE, subL_cells (h c (by simp)), subE_cells fun d hd => h d (by simp [hd])]
theorem cell_slO {es : List (List PV)} (h : ∀ e ∈ es, ∀ c ∈ e, Cell c) : Cell (slO es) := by
  cases es with
  | nil => exact cell_v _
  | cons e r =>
    refine ⟨?_, .inr ⟨_, _, rfl⟩⟩
    show cleanE (e :: r) = true
    generalize hss : e :: r = ss at h
    clear hss
    have cl : ∀ (cs : List PV), (∀ c ∈ cs, Cell c) → cleanL cs = true := by
      intro cs hc
      induction cs with
      | nil => rfl
      | cons c cs ih => simp only [cleanL, Bool.and_eq_true]; exact ⟨(hc c (by simp)).1, ih fun d hd => hc d (by simp [hd])⟩
    induction ss with
    | nil => rfl
    | cons s ss ih => simp only [cleanE, Bool.and_eq_true]; exact ⟨cl s (h s (by simp)), ih fun e' he => h e' (by simp [he])⟩
theorem subB_cons (σ : Nat → PV) (g : Nat) (p : Page) (r : Book) : subB σ ((g, p) :: r) = (g, subP σ p) :: subB σ r := rfl
theorem subB_nil (σ : Nat → PV) : subB σ [] = [] := rfl
theorem subP_cons (σ : Nat → PV) (es : List PV) (q : PV) (r : Page) : subP σ ((es, q) :: r) = (subL σ es, sub σ q) :: subP σ r := rfl
theorem subP_nil (σ : Nat → PV) : subP σ [] = [] := rfl
theorem subP_append (σ : Nat → PV) : ∀ (a b : Page), subP σ (a ++ b) = subP σ a ++ subP σ b
  | [], b => rfl
  | (x, y) :: a, b => by simp only [List.cons_append, subP_cons, subP_append σ a b]
theorem subB_append (σ : Nat → PV) : ∀ (a b : Book), subB σ (a ++ b) = subB σ a ++ subB σ b
  | [], b => rfl
  | (x, y) :: a, b => by simp only [List.cons_append, subB_cons, subB_append σ a b]
theorem cells_app {a b : List PV} (h1 : ∀ c ∈ a, Cell c) (h2 : ∀ c ∈ b, Cell c) : ∀ c ∈ a ++ b, Cell c := by
  intro c hc
  rcases List.mem_append.1 hc with h | h
  · exact h1 c h
  · exact h2 c h
theorem cells_flat {ks : List (List PV)} (h : ∀ k ∈ ks, ∀ c ∈ k, Cell c) : ∀ c ∈ ks.flatten, Cell c := by
  intro c hc
  obtain ⟨k, hk, hc⟩ := List.mem_flatten.1 hc
  exact h k hk c hc
theorem subP_pg (σ : Nat → PV) (q : List PV → List PV) (hq : ∀ x, subL σ (q x) = q (subL σ x)) : ∀ (xs : List (List PV)) (ys : List PV), subP σ (pg q xs ys) = pg q (subE σ xs) (subL σ ys)
  | [], ys => by simp [pg, subP, subE]
  | x :: xs, [] => by simp [pg, subP, subE, subL]
  | x :: xs, y :: ys => by simp only [pg, subP_cons, subE_cons, subL_cons, subP_pg σ q hq xs ys, hq]
section
variable [E : Env]
theorem page_pg {f : Nat} (q : List PV → List PV) : ∀ {xs : List (List PV)} {ys : List PV}, (∀ (i : Nat) x y, xs[i]? = some x → ys[i]? = some y → KnownX Tryz.prog f (q x) y) → PageOk Tryz.prog f (pg q xs ys)
  | [], _, _ => trivial
  | _ :: _, [], _ => trivial
  | x :: xs, y :: ys, h => ⟨h 0 x y rfl rfl, page_pg q fun i a b ha hb => h (i + 1) a b (by simpa using ha) (by simpa using hb)⟩
theorem page_app {f : Nat} : ∀ {a b : Page}, PageOk Tryz.prog f a → PageOk Tryz.prog f b → PageOk Tryz.prog f (a ++ b)
  | [], _, _, h => h
  | _ :: _, _, h, g => ⟨h.1, page_app h.2 g⟩
theorem book_app : ∀ {a b : Book}, BookOk Tryz.prog a → BookOk Tryz.prog b → BookOk Tryz.prog (a ++ b)
  | [], _, _, h => h
  | _ :: _, _, h, g => ⟨h.1, book_app h.2 g⟩
end
end B
end Go.Ev
