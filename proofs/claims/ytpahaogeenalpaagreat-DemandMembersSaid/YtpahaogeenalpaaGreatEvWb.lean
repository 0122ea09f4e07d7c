/- Drawing: labels, keys, leaves. -/
import Derived.Test.YtpahaogeenalpaaGreatEvPa
import Derived.Test.YtpahaogeenalpaaGreatEvWa
set_option linter.all false
/- Drawing: labels, keys, leaves. -/
namespace Go.Ev.D
open Go.Proofs
theorem put_ne (hp : Hp) {a b : Nat} (blk : Blk) (h : b ≠ a) : (hp.put a blk).get b = hp.get b := by
  show Al.get (Al.set hp.blks a blk) b = Al.get hp.blks b
  rw [Al.get_set', if_neg h]
theorem put_at {hp : Hp} {a : Nat} {b : Blk} (blk : Blk) (h : hp.get a = some b) : (hp.put a blk).get a = some blk := get_put _ _ _ _ h
theorem _root_.Go.Ev.Fr.put {id : Nat} {hp hp' : Hp} {a : Nat} (h : Fr id hp hp') (ha : hp.next ≤ a) (blk : Blk) : Fr id hp (hp'.put a blk) :=
  ⟨h.1, fun j hj hn => by rw [put_ne _ _ (by omega)]; exact h.2 j hj hn⟩
theorem _root_.Go.Ev.Fr.from {id : Nat} {hp hp' : Hp} {b : Blk} (h : Fr id (hp.new b) hp') : Fr id hp hp' := (Fr.new id hp b).trans h
theorem new_get (hp : Hp) (b : Blk) {j : Nat} (h : j < hp.next) : (hp.new b).get j = hp.get j := get_new_ne hp b (by omega)
/-! ### operations -/
theorem eq_i (hp : Hp) (a b : Nat) : primBin tys hp .eql 3 (some (i a)) (some (i b)) = some (.v (.bool (decide (a = b))), hp) := by
  rw [primBin_eq, bin_int, int_eql, ret1_some', ieqb_nat]
theorem gtr_i (hp : Hp) (a : Nat) : primBin tys hp .gtr 3 (some (i (a + 1))) (some (i 0)) = some (.v (.bool true), hp) := by kernel_rfl
theorem gtr_0 (hp : Hp) : primBin tys hp .gtr 3 (some (i 0)) (some (i 0)) = some (.v (.bool false), hp) := by kernel_rfl
theorem sub_i (hp : Hp) (a b : Nat) (h : b ≤ a) (h2 : a ≤ 1000) : primBin tys hp .sub 3 (some (i a)) (some (i b)) = some (i (a - b), hp) := by
  rw [primBin_eq, bin_int, int_sub64 a b h (by omega), ret1_some']
theorem alloc31 (hp : Hp) : primAlloc tys hp 31 = some (.ptr hp.next 0, hp.new ⟨zero, 7, false, 0⟩) := by kernel_rfl
theorem alloc68 (hp : Hp) : primAlloc tys hp 68 = some (.ptr hp.next 0, hp.new ⟨[i 0, sb []], 2, false, 0⟩) := by kernel_rfl
theorem alloc35 (hp : Hp) : primAlloc tys hp 35 = some (.ptr hp.next 0, hp.new ⟨nl :: bo false :: zero, 9, false, 0⟩) := by kernel_rfl
theorem lst7 {v : List PV} (h : v.length = 7) : ∃ a b c d e f g, v = [a, b, c, d, e, f, g] := by
  rcases v with _ | ⟨a, _ | ⟨b, _ | ⟨c, _ | ⟨d, _ | ⟨e, _ | ⟨f, _ | ⟨g, _ | ⟨x, r⟩⟩⟩⟩⟩⟩⟩⟩ <;> simp at h
  exact ⟨a, b, c, d, e, f, g, rfl⟩
theorem store31 {hp : Hp} {a : Nat} {cs : List PV} (h : hp.get a = some ⟨cs, 7, false, 0⟩) (hc : cs.length = 7) {v : List PV} (hv : v.length = 7) :
    primStore tys hp 31 (some (.ptr a 0)) (some (.agg v)) = some (.un, hp.put a ⟨v, 7, false, 0⟩) := by
  obtain ⟨x0, x1, x2, x3, x4, x5, x6, rfl⟩ := lst7 hv
  obtain ⟨y0, y1, y2, y3, y4, y5, y6, rfl⟩ := lst7 hc
  show stored (match hp.get a with | none => none | some b => match sizeT tys 31 with | none => none | some sz => match pvCells (.agg [x0, x1, x2, x3, x4, x5, x6]) with | none => none | some xs => storeIn hp a 0 b xs sz) = _
  rw [h]
  rfl
theorem load31 {hp : Hp} {a : Nat} {v : List PV} {fz : Nat} (h : hp.get a = some ⟨v, 7, false, fz⟩) (hv : v.length = 7) : primLoad tys hp 31 (some (.ptr a 0)) = some (.agg v, hp) := by
  obtain ⟨x0, x1, x2, x3, x4, x5, x6, rfl⟩ := lst7 hv
  show ret1 hp (match hp.get a with | none => none | some b => partOf tys 31 b.cells 0) = _
  rw [h]
  rfl
theorem loadAt31 {hp : Hp} {a : Nat} {v : List PV} {fz : Nat} (h : hp.get a = some ⟨v, 7, false, fz⟩) (hv : v.length = 7) : loadAt tys hp 31 (.ptr a 0) = some (.agg v) := by
  obtain ⟨x0, x1, x2, x3, x4, x5, x6, rfl⟩ := lst7 hv
  show (match hp.get a with | none => none | some b => partOf tys 31 b.cells 0) = _
  rw [h]
  rfl
theorem fa31 (hp : Hp) (a f : Nat) (h : f < 7) : primFieldAddr tys hp 31 f (some (.ptr a 0)) = some (.ptr a f, hp) := by
  match f, h with
  | 0, _ => rfl
  | 1, _ => rfl
  | 2, _ => rfl
  | 3, _ => rfl
  | 4, _ => rfl
  | 5, _ => rfl
  | 6, _ => rfl
theorem store29 {hp : Hp} {a : Nat} {x0 x1 x2 x3 x4 x5 x6 l : PV} (h : hp.get a = some ⟨[x0, x1, x2, x3, x4, x5, x6], 7, false, 0⟩) (hl : pvCells l = some [l]) :
    primStore tys hp 29 (some (.ptr a 6)) (some l) = some (.un, hp.put a ⟨[x0, x1, x2, x3, x4, x5, l], 7, false, 0⟩) :=
  store_cell (i := y29) rfl rfl h rfl hl rfl
theorem cell_cells {c : PV} (h : Cell c) : pvCells c = some [c] := by
  rcases h.2 with ⟨x, rfl⟩ | ⟨es, ex, rfl⟩ <;> rfl
theorem still_cell {c : PV} (h : Cell c) : Still c := by
  rcases h.2 with ⟨x, rfl⟩ | ⟨es, ex, rfl⟩
  · exact still_v x
  · exact still_sl es ex
theorem fz_agg {cs : List PV} (h : ∀ c ∈ cs, Still c) {n : Nat} (hn : cs.length ≤ n) (hp : Hp) : freeze (n + 2) hp (.agg cs) = some (.agg cs, hp) := by
  show (match freezeL (n + 1) hp cs with | none => none | some (l, h) => some (PV.agg l, h)) = _
  rw [freezeL_still cs n hp h hn]
theorem fz1 {c : PV} (h : Cell c) (hp : Hp) : freezeL deepN hp [c] = some ([c], hp) :=
  freezeL_still [c] 999 hp (by intro x hx; simp at hx; subst hx; exact still_cell h) (by simp)
theorem fz0 (hp : Hp) : freezeL deepN hp [] = some ([], hp) := rfl
theorem freezeL_cons {n : Nat} {hp hp' hp'' : Hp} {x y : PV} {l l' : List PV} (h1 : freeze n hp x = some (y, hp')) (h2 : freezeL n hp' l = some (l', hp'')) : freezeL (n + 1) hp (x :: l) = some (y :: l', hp'') := by
  show (match freeze n hp x with | none => none | some (y, h) => match freezeL n h l with | none => none | some (ys, h') => some (y :: ys, h')) = _
  rw [h1]
  simp only []
  rw [h2]
theorem asked {R : Type} {O : Orc} {rc : RC R} {f : Nat} (hf : fnsO.get f = none) {l ds : List PV} {hp hp1 : Hp} (hl : freezeL deepN hp l = some (ds, hp1)) {q : PV} (hq : O f ds = some q) (k : PV → Hp → Option R) :
    callF tys fnsO O rc f l hp k = k q hp1 := by
  unfold callF
  rw [hf]
  simp only [hl, callO, hq]
section
variable [E : Env]
theorem fzv2 {a b : List PV} (ha : GV a) (hb : GV b) (hp : Hp) : freezeL deepN hp [.agg a, .agg b] = some ([.agg a, .agg b], hp) :=
  freezeL_cons (n := 999) (fz_agg (n := 997) (fun c hc => still_cell (ha.cells c hc)) (by rw [ha.seven]; omega) hp)
    (freezeL_cons (n := 998) (fz_agg (n := 996) (fun c hc => still_cell (hb.cells c hc)) (by rw [hb.seven]; omega) hp) rfl)
theorem fzv1 {a : List PV} (ha : GV a) (hp : Hp) : freezeL deepN hp [.agg a] = some ([.agg a], hp) :=
  freezeL_cons (n := 999) (fz_agg (n := 997) (fun c hc => still_cell (ha.cells c hc)) (by rw [ha.seven]; omega) hp) rfl
/-- an own function, from a heap that holds the source -/
def Gen (R : Type) (lp : PV) (N f : Nat) (args : List PV) (Q : PV → Prop) : Prop :=
  ∀ n, N ≤ n → ∀ (hp : Hp) (id a : Nat), id < hp.next → hp.get id = some (src lp a) → ∃ r a' hp', Q r ∧ hp'.get id = some (src lp a') ∧ Fr id hp hp' ∧ ∀ k : PV → Hp → Option R, callF tys fnsO orc (run tys fnsO orc n) f (.ptr id 0 :: args) hp k = k r hp'
theorem succ_of {N n : Nat} (h : N + 1 ≤ n) : ∃ m, n = m + 1 ∧ N ≤ m := ⟨n - 1, by omega, by omega⟩
variable {R : Type} {lp : PV} {zs : List Int}
theorem gNext (hl : IsL lp zs) (hz : zs.length ≤ 60) {m : Nat} (hm : 1 ≤ m) (hm2 : m ≤ 1000) : Gen R lp 1 30 [i m] fun r => ∃ x, x < m ∧ r = i x := by
  intro n hn hp id a hid h
  obtain ⟨n', rfl, _⟩ := succ_of hn
  obtain ⟨x, a', hp', h1, h2, h3, h4⟩ := next30 orc (R := R) n' hl hz h hm hm2
  exact ⟨i x, a', hp', ⟨x, h1, rfl⟩, h2, h3, h4⟩
theorem gLabel (hl : IsL lp zs) (hz : zs.length ≤ 60) : Gen R lp 2 38 [] fun r => [r] ∈ labs3 := by
  intro n hn hp id a hid h
  obtain ⟨n', rfl, hn'⟩ := succ_of hn
  obtain ⟨n'', rfl, _⟩ := succ_of hn'
  obtain ⟨c, a', hp', h1, h2, h3, h4⟩ := pick38 orc (R := R) n'' hl hz hid h
  refine ⟨c, a', hp', ?_, h2, h3, h4⟩
  simp only [labs, List.mem_cons, List.not_mem_nil, or_false] at h1
  rcases h1 with rfl | rfl | rfl <;> simp [labs3]
theorem gAtom (hl : IsL lp zs) (hz : zs.length ≤ 60) : Gen R lp 2 60 [] fun r => r ∈ atoms := by
  intro n hn hp id a hid h
  obtain ⟨n', rfl, hn'⟩ := succ_of hn
  obtain ⟨n'', rfl, _⟩ := succ_of hn'
  obtain ⟨c, a', hp', h1, h2, h3, h4⟩ := pick60 orc (R := R) n'' hl hz hid h
  exact ⟨c, a', hp', h1, h2, h3, h4⟩
theorem gWord (hl : IsL lp zs) (hz : zs.length ≤ 60) : Gen R lp 2 62 [] fun r => r ∈ words := by
  intro n hn hp id a hid h
  obtain ⟨n', rfl, hn'⟩ := succ_of hn
  obtain ⟨n'', rfl, _⟩ := succ_of hn'
  obtain ⟨c, a', hp', h1, h2, h3, h4⟩ := pick62 orc (R := R) n'' hl hz hid h
  exact ⟨c, a', hp', h1, h2, h3, h4⟩
theorem gNum (hl : IsL lp zs) (hz : zs.length ≤ 60) : Gen R lp 2 58 [] fun r => r ∈ nums := by
  intro n hn hp id a hid h
  obtain ⟨n', rfl, hn'⟩ := succ_of hn
  obtain ⟨n'', rfl, _⟩ := succ_of hn'
  obtain ⟨c, a', hp', h1, h2, h3, h4⟩ := pick58 orc (R := R) n'' hl hz hid h
  exact ⟨c, a', hp', h1, h2, h3, h4⟩
/-- what is seen of a heap in which the result's block lies -/
theorem fin31 {hp hp2 : Hp} {id a' : Nat} {b : Blk} (hid : id < hp.next) (hb : b = ⟨zero, 7, false, 0⟩) (hf : Fr id (hp.new b) hp2) (hs : hp2.get id = some (src lp a')) {v : List PV} (hv : v.length = 7) :
    primStore tys hp2 31 (some (.ptr hp.next 0)) (some (.agg v)) = some (.un, hp2.put hp.next ⟨v, 7, false, 0⟩) ∧ (hp2.put hp.next ⟨v, 7, false, 0⟩).get id = some (src lp a') ∧ Fr id hp (hp2.put hp.next ⟨v, 7, false, 0⟩) ∧ loadAt tys (hp2.put hp.next ⟨v, 7, false, 0⟩) 31 (.ptr hp.next 0) = some (.agg v) := by
  subst hb
  have hk := hf.kept hid
  exact ⟨store31 hk rfl hv, by rw [put_ne _ _ (by omega)]; exact hs, Fr.put hf.from (Nat.le_refl _) _, loadAt31 (put_at _ hk) hv⟩
theorem tup0 {l : PV} (hl : l ∈ labels) : GB 20 (vTup [] l) :=
  ⟨.tup (by simp) (by simp) hl, peqL_le (by omega) (seven_eq (n := 10) (pf (by simp) (by omega)) (pf (by simp) (by omega)) (pf (by simp) (by omega)) (pf (by simp [slOf]) (by omega)) (pf (by simp) (by omega)) (pf (by simp) (by omega)) (pl hl (by omega)))⟩
/-- a value without labels, that is one with any -/
def NV (N : Nat) (r : PV) : Prop := ∃ w, w.length = 6 ∧ r = .agg (w ++ [nl]) ∧ ∀ l ∈ labels, GB N (w ++ [l])
/-- leaves -/
theorem gLeaf (hl : IsL lp zs) (hz : zs.length ≤ 60) : Gen R lp 3 29 [] (NV 20) := by
  intro n hn hp id a hid h
  obtain ⟨n', rfl, hn'⟩ := succ_of hn
  have hlab : nl ∈ labels := by simp [labels]
  obtain ⟨_, a1, hp1, ⟨x, hx, rfl⟩, s1, f1, c1⟩ := gNext (R := R) hl hz (m := 6) (by omega) (by omega) n' (by omega) (hp.new ⟨zero, 7, false, 0⟩) id a (Nat.lt_succ_of_lt hid) (by rw [new_get _ _ hid]; exact h)
  have hid1 : id < hp1.next := Nat.lt_of_lt_of_le (Nat.lt_succ_of_lt hid) f1.1
  match x, hx with
  | 0, _ =>
    obtain ⟨c, a2, hp2, hc, s2, f2, c2⟩ := gNum (R := R) hl hz n' hn' hp1 id a1 hid1 s1
    obtain ⟨q1, q2, q3, q4⟩ := fin31 hid rfl (f1.trans f2) s2 (v := vInt c nl) rfl
    have hq := asked (R := R) (O := orc) (rc := run tys fnsO orc n') (f := 57) rfl (fz1 (c_nums c hc) hp2) (o57 (c_nums c hc))
    refine ⟨_, a2, _, ⟨[i 1, c, sb [], nl, nl, nl], rfl, rfl, fun l hl => GB.int hc hl⟩, q2, q3, fun k => ?_⟩
    rw [call_own (fi := e29) rfl rfl, b29, run_succ, c29_eq]
    simp only [ev_seq, ev_block, ev_cond, r29_0a, alloc31, bP_some, seqK_normal, r29_1a, c1, r29_2a, eq_i, opd_tmp, alget, Nat.reduceEqDiff, reduceIte, decide_true, decide_false, bB_true, bB_false, r29_3a, c2, hq, q1, ev_ret, seqK_ret, blockK_ret, endK_ret, z29a, q4, consO_some, oneR_one, bQ_some]
    rfl
  | 1, _ =>
    obtain ⟨c, a2, hp2, hc, s2, f2, c2⟩ := gAtom (R := R) hl hz n' hn' hp1 id a1 hid1 s1
    obtain ⟨q1, q2, q3, q4⟩ := fin31 hid rfl (f1.trans f2) s2 (v := vAtom c nl) rfl
    have hq := asked (R := R) (O := orc) (rc := run tys fnsO orc n') (f := 59) rfl (fz1 (c_atoms c hc) hp2) (o59 (c_atoms c hc))
    refine ⟨_, a2, _, ⟨[i 3, i 0, c, nl, nl, nl], rfl, rfl, fun l hl => GB.atom hc hl⟩, q2, q3, fun k => ?_⟩
    rw [call_own (fi := e29) rfl rfl, b29, run_succ, c29_eq]
    simp only [ev_seq, ev_block, ev_cond, r29_0a, alloc31, bP_some, seqK_normal, r29_1a, c1, r29_2a, r29_4a, eq_i, opd_tmp, alget, Nat.reduceEqDiff, reduceIte, decide_true, decide_false, bB_true, bB_false, r29_5a, c2, hq, q1, ev_ret, seqK_ret, blockK_ret, endK_ret, z29a, q4, consO_some, oneR_one, bQ_some]
    rfl
  | 2, _ =>
    obtain ⟨c, a2, hp2, hc, s2, f2, c2⟩ := gWord (R := R) hl hz n' hn' hp1 id a1 hid1 s1
    obtain ⟨q1, q2, q3, q4⟩ := fin31 hid rfl (f1.trans f2) s2 (v := vStr c nl) rfl
    have hq := asked (R := R) (O := orc) (rc := run tys fnsO orc n') (f := 61) rfl (fz1 (c_words c hc) hp2) (o61 (c_words c hc))
    refine ⟨_, a2, _, ⟨[i 2, i 0, c, nl, nl, nl], rfl, rfl, fun l hl => GB.str hc hl⟩, q2, q3, fun k => ?_⟩
    rw [call_own (fi := e29) rfl rfl, b29, run_succ, c29_eq]
    simp only [ev_seq, ev_block, ev_cond, r29_0a, alloc31, bP_some, seqK_normal, r29_1a, c1, r29_2a, r29_4a, r29_6a, eq_i, opd_tmp, alget, Nat.reduceEqDiff, reduceIte, decide_true, decide_false, bB_true, bB_false, r29_7a, c2, hq, q1, ev_ret, seqK_ret, blockK_ret, endK_ret, z29a, q4, consO_some, oneR_one, bQ_some]
    rfl
  | 3, _ =>
    obtain ⟨_, a2, hp2, ⟨y, hy, rfl⟩, s2, f2, c2⟩ := gNext (R := R) hl hz (m := 3) (by omega) (by omega) n' (by omega) hp1 id a1 hid1 s1
    have hc : i y ∈ pids := by match y, hy with | 0, _ => simp [pids] | 1, _ => simp [pids] | 2, _ => simp [pids]
    obtain ⟨q1, q2, q3, q4⟩ := fin31 hid rfl (f1.trans f2) s2 (v := vPid (i y) nl) rfl
    have hq := asked (R := R) (O := orc) (rc := run tys fnsO orc n') (f := 63) rfl (fz1 (c_pids _ hc) hp2) (o63 (c_pids _ hc))
    refine ⟨_, a2, _, ⟨[i 4, i y, sb [], nl, nl, nl], rfl, rfl, fun l hl => GB.pid hc hl⟩, q2, q3, fun k => ?_⟩
    rw [call_own (fi := e29) rfl rfl, b29, run_succ, c29_eq]
    simp only [ev_seq, ev_block, ev_cond, r29_0a, alloc31, bP_some, seqK_normal, r29_1a, c1, r29_2a, r29_4a, r29_6a, r29_8a, eq_i, opd_tmp, alget, Nat.reduceEqDiff, reduceIte, decide_true, decide_false, bB_true, bB_false, r29_9a, c2, hq, q1, ev_ret, seqK_ret, blockK_ret, endK_ret, z29a, q4, consO_some, oneR_one, bQ_some]
    rfl
  | 4, _ =>
    obtain ⟨q1, q2, q3, q4⟩ := fin31 hid rfl f1 s1 (v := vNil nl) rfl
    have hq := asked (R := R) (O := orc) (rc := run tys fnsO orc n') (f := 32) rfl (fz0 hp1) o32
    refine ⟨_, a1, _, ⟨[i 5, i 0, sb [], nl, nl, nl], rfl, rfl, fun l hl => GB.nil hl⟩, q2, q3, fun k => ?_⟩
    rw [call_own (fi := e29) rfl rfl, b29, run_succ, c29_eq]
    simp only [ev_seq, ev_block, ev_cond, r29_0a, alloc31, bP_some, seqK_normal, r29_1a, c1, r29_2a, r29_4a, r29_6a, r29_8a, r29_10a, eq_i, opd_tmp, alget, Nat.reduceEqDiff, reduceIte, decide_true, decide_false, bB_true, bB_false, r29_11a, hq, q1, ev_ret, seqK_ret, blockK_ret, endK_ret, z29a, q4, consO_some, oneR_one, bQ_some]
    rfl
  | 5, _ =>
    obtain ⟨q1, q2, q3, q4⟩ := fin31 hid rfl f1 s1 (v := vTup [] nl) rfl
    have hq := asked (R := R) (O := orc) (rc := run tys fnsO orc n') (f := 31) rfl (fz1 cN hp1) (o31 (ks := []) (by simp) (by simp))
    refine ⟨_, a1, _, ⟨[i 6, i 0, sb [], nl, nl, nl], rfl, rfl, fun l hl => tup0 hl⟩, q2, q3, fun k => ?_⟩
    rw [call_own (fi := e29) rfl rfl, b29, run_succ, c29_eq]
    simp only [ev_seq, ev_block, ev_cond, ev_skip, r29_0a, alloc31, bP_some, seqK_normal, blockK_normal, r29_1a, c1, r29_2a, r29_4a, r29_6a, r29_8a, r29_10a, eq_i, opd_tmp, alget, Nat.reduceEqDiff, reduceIte, decide_true, decide_false, bB_true, bB_false, r29_12a, hq, q1, ev_ret, seqK_ret, blockK_ret, endK_ret, z29a, q4, consO_some, oneR_one, bQ_some]
    rfl
end
end Go.Ev.D

/- Drawing: slices that grow; labels, keys. -/
namespace Go.Ev.D
open Go.Proofs
/-- a slice that has grown from nothing, in a block of its own from s0 on -/
structure Acc (sz s0 : Nat) (hp : Hp) (x : PV) (es : List (List PV)) : Prop where
  acc : AccS sz hp x es
  own : ∀ j o l c s, x = .row j o l c s → s0 ≤ j
  emp : es = [] → x = nl
theorem Acc.nil (sz s0 : Nat) (hp : Hp) : Acc sz s0 hp nl [] := ⟨AccS.nil sz hp, by intro j o l c s h; simp at h, fun _ => rfl⟩
theorem Acc.keep {sz s0 : Nat} {hp hp' : Hp} {x : PV} {es : List (List PV)} (h : Acc sz s0 hp x es) (hn : hp.next ≤ hp'.next) (hg : ∀ j, s0 ≤ j → j < hp.next → hp'.get j = hp.get j) : Acc sz s0 hp' x es := by
  refine ⟨⟨h.acc.1, ?_⟩, h.own, h.emp⟩
  rcases h.acc.2 with hx | ⟨j, hx, hj, hgj⟩
  · exact .inl hx
  · exact .inr ⟨j, hx, by omega, by rw [hg j (h.own _ _ _ _ _ hx) hj]; exact hgj⟩
theorem Acc.fr {sz s0 : Nat} {hp hp' : Hp} {x : PV} {es : List (List PV)} (h : Acc sz s0 hp x es) {id : Nat} (hid : id < s0) (f : Fr id hp hp') : Acc sz s0 hp' x es :=
  h.keep f.1 fun j h1 h2 => f.2 j h2 (by omega)
theorem Acc.app' {hp : Hp} {sT sz by' s0 : Nat} (ht : SlT tys sT sz by') {x : PV} {es : List (List PV)} (h : Acc sz s0 hp x es) (hs : s0 ≤ hp.next) {e : List PV} (he : e.length = sz) (hl : (2 * (es.length + 1) + 1024) * by' ≤ 281474976710656) :
    ∃ x' hp', prim2 (Ev.app tys sT (hp.new ⟨e, sz, false, 0⟩)) (some x) (some (.row hp.next 0 1 1 sz)) = some (x', hp') ∧ Acc sz s0 hp' x' (es ++ [e]) ∧ hp.next + 1 ≤ hp'.next ∧ ∀ j, j < hp.next → (∀ o l c s, x ≠ .row j o l c s) → hp'.get j = hp.get j := by
  obtain ⟨x', hp', h1, h2, h3, h4, ⟨m, h5⟩, h6⟩ := h.acc.app ht he hl
  have h7 : hp.next + 1 ≤ hp'.next := by
    rcases h2.2 with ⟨e, _⟩ | ⟨j, e, hj, _⟩
    · rw [h5] at e; cases e
    · rw [h5] at e; cases e; omega
  refine ⟨x', hp', h1, ⟨h2, ?_, by simp⟩, h7, h6⟩
  intro j o l c s e
  rw [h5] at e
  cases e
  omega
theorem Acc.app {hp : Hp} {sT sz by' s0 : Nat} (ht : SlT tys sT sz by') {x : PV} {es : List (List PV)} (h : Acc sz s0 hp x es) (hs : s0 ≤ hp.next) {e : List PV} (he : e.length = sz) (hl : (2 * (es.length + 1) + 1024) * by' ≤ 281474976710656) :
    ∃ x' hp', prim2 (Ev.app tys sT (hp.new ⟨e, sz, false, 0⟩)) (some x) (some (.row hp.next 0 1 1 sz)) = some (x', hp') ∧ Acc sz s0 hp' x' (es ++ [e]) ∧ hp.next ≤ hp'.next ∧ ∀ j, j < hp.next → (∀ o l c s, x ≠ .row j o l c s) → hp'.get j = hp.get j := by
  obtain ⟨x', hp', h1, h2, h3, h4⟩ := h.app' ht hs he hl
  exact ⟨x', hp', h1, h2, Nat.le_of_succ_le h3, h4⟩
theorem Acc.frz {sz s0 : Nat} {hp : Hp} {x : PV} {es : List (List PV)} (h : Acc sz s0 hp x es) (hs : ∀ e ∈ es, ∀ c ∈ e, Still c) (n : Nat) (hl : es.flatten.length ≤ n) :
    ∃ hp', freeze (n + 2) hp x = some (slOf es, hp') ∧ hp'.next = hp.next ∧ ∀ j, j < s0 → hp'.get j = hp.get j := by
  obtain ⟨hp', h1, h2, h3, h4⟩ := h.acc.frz hs n hl h.emp
  exact ⟨hp', h1, h2, fun j hj => h4 j fun o l c s e => by have := h.own _ _ _ _ _ e; omega⟩
theorem sl29 : SlT tys 29 1 16 := ⟨⟨y29, y9, rfl, rfl, rfl, rfl, rfl, rfl⟩, by decide, by decide⟩
theorem sl26 : SlT tys 26 7 128 := ⟨⟨y26, y31, rfl, rfl, rfl, rfl, rfl, rfl⟩, by decide, by decide⟩
theorem sl27 : SlT tys 27 2 24 := ⟨⟨y27, y68, rfl, rfl, rfl, rfl, rfl, rfl⟩, by decide, by decide⟩
theorem sl28 : SlT tys 28 9 160 := ⟨⟨y28, y35, rfl, rfl, rfl, rfl, rfl, rfl⟩, by decide, by decide⟩
theorem mk26 (hp : Hp) {v : List PV} (hv : v.length = 7) : primBuildSlice tys hp 26 1 (some [(0, .agg v)]) = some (.row hp.next 0 1 1 7, hp.new ⟨v, 7, false, 0⟩) := by
  obtain ⟨x0, x1, x2, x3, x4, x5, x6, rfl⟩ := lst7 hv
  rfl
theorem mk27 (hp : Hp) (a b : PV) : primBuildSlice tys hp 27 1 (some [(0, .agg [a, b])]) = some (.row hp.next 0 1 1 2, hp.new ⟨[a, b], 2, false, 0⟩) := rfl
theorem mk29 (hp : Hp) {c : PV} (hc : ∃ x, c = .v x) : primBuildSlice tys hp 29 1 (some [(0, c)]) = some (.row hp.next 0 1 1 1, hp.new ⟨[c], 1, false, 0⟩) := by
  obtain ⟨x, rfl⟩ := hc
  rfl
theorem mk28 (hp : Hp) {v : List PV} (hv : v.length = 9) : primBuildSlice tys hp 28 1 (some [(0, .agg v)]) = some (.row hp.next 0 1 1 9, hp.new ⟨v, 9, false, 0⟩) := by
  rcases v with _ | ⟨a, v⟩
  · simp at hv
  rcases v with _ | ⟨b, v⟩
  · simp at hv
  obtain ⟨x0, x1, x2, x3, x4, x5, x6, rfl⟩ := lst7 (v := v) (by simpa using hv)
  rfl
theorem build68 (hp : Hp) (n : Nat) {c : PV} (hc : ∃ x, c = .v x) : primBuild tys hp 68 (some [(0, i n), (1, c)]) = some (.agg [i n, c], hp) := by
  obtain ⟨x, rfl⟩ := hc
  rfl
theorem store68 {hp : Hp} {a : Nat} {x y u v : PV} (h : hp.get a = some ⟨[x, y], 2, false, 0⟩) : primStore tys hp 68 (some (.ptr a 0)) (some (.agg [u, v])) = some (.un, hp.put a ⟨[u, v], 2, false, 0⟩) := by
  show stored (match hp.get a with | none => none | some b => match sizeT tys 68 with | none => none | some sz => match pvCells (.agg [u, v]) with | none => none | some xs => storeIn hp a 0 b xs sz) = _
  rw [h]
  rfl
theorem loadAt68 {hp : Hp} {a : Nat} {u v : PV} (h : hp.get a = some ⟨[u, v], 2, false, 0⟩) : loadAt tys hp 68 (.ptr a 0) = some (.agg [u, v]) := by
  show (match hp.get a with | none => none | some b => partOf tys 68 b.cells 0) = _
  rw [h]
  rfl
theorem v_atoms : ∀ c ∈ atoms, ∃ x, c = .v x := by
  intro c hc; simp only [atoms, List.mem_cons, List.not_mem_nil, or_false] at hc
  rcases hc with rfl | rfl | rfl | rfl <;> exact ⟨_, rfl⟩
theorem v_words : ∀ c ∈ words, ∃ x, c = .v x := by
  intro c hc; simp only [words, List.mem_cons, List.not_mem_nil, or_false] at hc
  rcases hc with rfl | rfl | rfl | rfl <;> exact ⟨_, rfl⟩
theorem v_labs : ∀ c, [c] ∈ labs3 → ∃ x, c = .v x := by
  intro c hc; simp only [labs3, List.mem_cons, List.not_mem_nil, or_false, List.cons.injEq, and_true] at hc
  rcases hc with rfl | rfl | rfl <;> exact ⟨_, rfl⟩
section
variable [E : Env]
variable {R : Type} {lp : PV} {zs : List Int}
/-- keys -/
theorem gKey (hl : IsL lp zs) (hz : zs.length ≤ 60) : Gen R lp 3 34 [] fun r => ∃ k, r = .agg k ∧ k ∈ keys := by
  intro n hn hp id a hid h
  obtain ⟨n', rfl, hn'⟩ := succ_of hn
  obtain ⟨_, a1, hp1, ⟨x, hx, rfl⟩, s1, f1, c1⟩ := gNext (R := R) hl hz (m := 2) (by omega) (by omega) n' (by omega) (hp.new ⟨[i 0, sb []], 2, false, 0⟩) id a (Nat.lt_succ_of_lt hid) (by rw [new_get _ _ hid]; exact h)
  have hid1 : id < hp1.next := Nat.lt_of_lt_of_le (Nat.lt_succ_of_lt hid) f1.1
  match x, hx with
  | 0, _ =>
    obtain ⟨c, a2, hp2, hc, s2, f2, c2⟩ := gAtom (R := R) hl hz n' hn' hp1 id a1 hid1 s1
    have hk := (f1.trans f2).kept hid
    have q1 := store68 (u := i 0) (v := c) hk
    have q4 := loadAt68 (put_at ⟨[i 0, c], 2, false, 0⟩ hk)
    refine ⟨.agg [i 0, c], a2, hp2.put hp.next ⟨[i 0, c], 2, false, 0⟩, ⟨_, rfl, by simp only [keys, List.mem_append, List.mem_map]; exact .inl ⟨c, hc, rfl⟩⟩, (put_ne _ _ (by omega)).trans s2, Fr.put (f1.trans f2).from (Nat.le_refl _) _, fun k => ?_⟩
    rw [call_own (fi := e34) rfl rfl, b34, run_succ, c34_eq]
    simp only [ev_seq, ev_block, ev_cond, r34_0a, alloc68, bP_some, seqK_normal, r34_1a, c1, eq_i, opd_tmp, alget, Nat.reduceEqDiff, reduceIte, decide_true, decide_false, bB_true, bB_false, r34_2a, c2, build68 _ _ (v_atoms c hc), q1, ev_ret, seqK_ret, blockK_ret, endK_ret, z34a, q4, consO_some, oneR_one, bQ_some]
  | 1, _ =>
    obtain ⟨c, a2, hp2, hc, s2, f2, c2⟩ := gWord (R := R) hl hz n' hn' hp1 id a1 hid1 s1
    have hk := (f1.trans f2).kept hid
    have q1 := store68 (u := i 1) (v := c) hk
    have q4 := loadAt68 (put_at ⟨[i 1, c], 2, false, 0⟩ hk)
    refine ⟨.agg [i 1, c], a2, hp2.put hp.next ⟨[i 1, c], 2, false, 0⟩, ⟨_, rfl, by simp only [keys, List.mem_append, List.mem_map]; exact .inr ⟨c, hc, rfl⟩⟩, (put_ne _ _ (by omega)).trans s2, Fr.put (f1.trans f2).from (Nat.le_refl _) _, fun k => ?_⟩
    rw [call_own (fi := e34) rfl rfl, b34, run_succ, c34_eq]
    simp only [ev_seq, ev_block, ev_cond, ev_skip, r34_0a, alloc68, bP_some, seqK_normal, r34_1a, c1, eq_i, opd_tmp, alget, Nat.reduceEqDiff, reduceIte, decide_true, decide_false, bB_true, bB_false, r34_3a, c2, build68 _ _ (v_words c hc), q1, ev_ret, seqK_ret, blockK_ret, endK_ret, z34a, q4, consO_some, oneR_one, bQ_some]
theorem l3_still : ∀ e ∈ labs3, ∀ c ∈ e, Still c := fun e he c hc => still_cell (cellss_of (l := labs3) rfl e he c hc)
theorem frz1 {sz s0 : Nat} {hp : Hp} {x : PV} {es : List (List PV)} (h : Acc sz s0 hp x es) (hs : ∀ e ∈ es, ∀ c ∈ e, Still c) (hl : es.flatten.length ≤ 900) :
    ∃ hp', freezeL deepN hp [x] = some ([slOf es], hp') ∧ hp'.next = hp.next ∧ ∀ j, j < s0 → hp'.get j = hp.get j := by
  obtain ⟨hp', h1, h2, h3⟩ := h.frz hs 997 (by omega)
  exact ⟨hp', freezeL_cons (n := 999) h1 rfl, h2, h3⟩
/-- labels -/
theorem gLabels (hl : IsL lp zs) (hz : zs.length ≤ 60) : Gen R lp 3 14 [] fun r => r ∈ labels := by
  intro n hn hp id a hid h
  obtain ⟨n', rfl, hn'⟩ := succ_of hn
  obtain ⟨_, a1, hp1, ⟨x, hx, rfl⟩, s1, f1, c1⟩ := gNext (R := R) hl hz (m := 3) (by omega) (by omega) n' (by omega) hp id a hid h
  have hid1 : id < hp1.next := Nat.lt_of_lt_of_le hid f1.1
  by_cases h1 : x = 1
  · subst h1
    obtain ⟨c, a2, hp2, hc, s2, f2, c2⟩ := gLabel (R := R) hl hz n' hn' hp1 id a1 hid1 s1
    have hid2 : id < hp2.next := Nat.lt_of_lt_of_le hid1 f2.1
    have hcs : ∀ e ∈ [[c]], ∀ c ∈ e, Still c := by intro e he; simp at he; subst he; exact l3_still [c] hc
    obtain ⟨x3, hp3, p3, ac3, n3, g3⟩ := (Acc.nil 1 hp2.next hp2).app sl29 (Nat.le_refl _) (e := [c]) rfl (by simp)
    have f3 : Fr id hp2 hp3 := ⟨n3, fun j hj _ => g3 j hj (by intro o l c s e; simp at e)⟩
    have s3 : hp3.get id = some (src lp a2) := (g3 id hid2 (by intro o l c s e; simp at e)).trans s2
    have hid3 : id < hp3.next := Nat.lt_of_lt_of_le hid2 n3
    obtain ⟨_, a4, hp4, ⟨y, hy, rfl⟩, s4, f4, c4⟩ := gNext (R := R) hl hz (m := 2) (by omega) (by omega) n' (by omega) hp3 id a2 hid3 s3
    have hid4 : id < hp4.next := Nat.lt_of_lt_of_le hid3 f4.1
    have ac4 := ac3.fr hid2 f4
    match y, hy with
    | 0, _ =>
      obtain ⟨hp5, z1, z2, z3⟩ := frz1 ac4 hcs (by simp)
      obtain ⟨q, hq, hqm⟩ := o39 (ls := [[c]]) (by simpa using hc) (by simp)
      have hcall := asked (R := R) (O := orc) (rc := run tys fnsO orc n') (f := 39) rfl z1 hq
      refine ⟨q, a4, hp5, hqm, (z3 id hid2).trans s4, ?_, fun k => ?_⟩
      · have f24 := ((f1.trans f2).trans f3).trans f4
        have n24 := (f1.trans f2).1
        exact ⟨by rw [z2]; exact f24.1, fun j hj hne => (z3 j (by omega)).trans (f24.2 j hj hne)⟩
      · rw [call_own (fi := e14) rfl rfl, b14, run_succ, c14_eq]
        simp only [ev_seq, ev_cond, ev_skip, r14_0a, r14_1a, r14_2a, c1, eq_i, opd_tmp, alget, Nat.reduceEqDiff, reduceIte, decide_true, decide_false, bB_true, bB_false, bP_some, seqK_normal, r14_3a, c2, mk29 _ (v_labs c hc), p3, r14_4a, c4, List.nil_append, r14_6b, hcall, ev_ret, seqK_ret, endK_ret, z14a, consO_some, oneR_one, bQ_some]
    | 1, _ =>
      obtain ⟨d, a5, hp5, hd, s5, f5, c5⟩ := gLabel (R := R) hl hz n' hn' hp4 id a4 hid4 s4
      have hid5 : id < hp5.next := Nat.lt_of_lt_of_le hid4 f5.1
      have ac5 := ac4.fr hid2 f5
      have n25 : hp2.next ≤ hp5.next := Nat.le_trans n3 (Nat.le_trans f4.1 f5.1)
      obtain ⟨x6, hp6, p6, ac6, n6, g6⟩ := ac5.app sl29 n25 (e := [d]) rfl (by simp)
      have low : ∀ j, j < hp2.next → hp6.get j = hp5.get j := fun j hj => g6 j (by omega) fun o l c s e => by have := ac5.own _ _ _ _ _ e; omega
      have hcs2 : ∀ e ∈ [[c]] ++ [[d]], ∀ c ∈ e, Still c := by intro e he; simp at he; rcases he with rfl | rfl; exact l3_still _ hc; exact l3_still _ hd
      obtain ⟨hp7, z1, z2, z3⟩ := frz1 ac6 hcs2 (by simp)
      obtain ⟨q, hq, hqm⟩ := o39 (ls := [[c]] ++ [[d]]) (by intro e he; simp at he; rcases he with rfl | rfl <;> assumption) (by simp)
      have hcall := asked (R := R) (O := orc) (rc := run tys fnsO orc n') (f := 39) rfl z1 hq
      refine ⟨q, a5, hp7, hqm, (z3 id hid2).trans ((low id hid2).trans s5), ?_, fun k => ?_⟩
      · have f25 := (((f1.trans f2).trans f3).trans f4).trans f5
        have n24 := (f1.trans f2).1
        exact ⟨by rw [z2]; have := f25.1; omega, fun j hj hne => (z3 j (by omega)).trans ((low j (by omega)).trans (f25.2 j hj hne))⟩
      · rw [call_own (fi := e14) rfl rfl, b14, run_succ, c14_eq]
        simp only [ev_seq, ev_cond, ev_skip, r14_0a, r14_1a, r14_2a, c1, eq_i, opd_tmp, alget, Nat.reduceEqDiff, reduceIte, decide_true, decide_false, bB_true, bB_false, bP_some, seqK_normal, r14_3a, c2, mk29 _ (v_labs c hc), p3, r14_4a, c4, r14_5a, c5, mk29 _ (v_labs d hd), p6, r14_6a, hcall, ev_ret, seqK_ret, endK_ret, z14a, consO_some, oneR_one, bQ_some]
  · obtain ⟨q, hq, hqm⟩ := o39 (ls := []) (by simp) (by simp)
    have hcall := asked (R := R) (O := orc) (rc := run tys fnsO orc n') (f := 39) rfl (fz1 cN hp1) hq
    refine ⟨q, a1, hp1, hqm, s1, f1, fun k => ?_⟩
    rw [call_own (fi := e14) rfl rfl, b14, run_succ, c14_eq]
    simp only [ev_seq, ev_cond, ev_skip, r14_0a, r14_1a, r14_2a, c1, eq_i, h1, opd_tmp, alget, Nat.reduceEqDiff, reduceIte, decide_true, decide_false, bB_true, bB_false, bP_some, seqK_normal, r14_6c, hcall, ev_ret, seqK_ret, endK_ret, z14a, consO_some, oneR_one, bQ_some]
end
end Go.Ev.D

/- Drawing: values; tuples. -/
namespace Go.Ev.D
open Go.Proofs
/-- what a run leaves alone below s0 -/
def Below (s0 id : Nat) (hp hp' : Hp) : Prop := hp.next ≤ hp'.next ∧ ∀ j, j < s0 → j ≠ id → hp'.get j = hp.get j
theorem Below.refl (s0 id : Nat) (hp : Hp) : Below s0 id hp hp := ⟨Nat.le_refl _, fun _ _ _ => rfl⟩
theorem Below.trans {s0 id : Nat} {a b c : Hp} (h1 : Below s0 id a b) (h2 : Below s0 id b c) : Below s0 id a c :=
  ⟨Nat.le_trans h1.1 h2.1, fun j hj hn => (h2.2 j hj hn).trans (h1.2 j hj hn)⟩
theorem _root_.Go.Ev.Fr.below {id s0 : Nat} {a b : Hp} (h : Fr id a b) (hs : s0 ≤ a.next) : Below s0 id a b := ⟨h.1, fun j hj hn => h.2 j (by omega) hn⟩
theorem app_below {s0 id : Nat} {hp hp' : Hp} {sz : Nat} {x : PV} {es : List (List PV)} (h : Acc sz s0 hp x es) (hs : s0 ≤ hp.next) (hn : hp.next ≤ hp'.next) (g : ∀ j, j < hp.next → (∀ o l c s, x ≠ .row j o l c s) → hp'.get j = hp.get j) : Below s0 id hp hp' :=
  ⟨hn, fun j hj _ => g j (by omega) fun o l c s e => by have := h.own _ _ _ _ _ e; omega⟩
section
variable [E : Env]
variable {R : Type} {lp : PV} {zs : List Int}
/-- a value with labels -/
def LV (N : Nat) (r : PV) : Prop := ∃ v, r = .agg v ∧ GB N v
theorem lst6 {v : List PV} (h : v.length = 6) : ∃ a b c d e f, v = [a, b, c, d, e, f] := by
  rcases v with _ | ⟨a, _ | ⟨b, _ | ⟨c, _ | ⟨d, _ | ⟨e, _ | ⟨f, _ | ⟨x, r⟩⟩⟩⟩⟩⟩⟩ <;> simp at h
  exact ⟨a, b, c, d, e, f, rfl⟩
theorem gValue (hl : IsL lp zs) (hz : zs.length ≤ 60) {h N B : Nat} (hN : 3 ≤ N) (gv : Gen R lp N 13 [i h] (NV B)) : Gen R lp (N + 1) 4 [i h] (LV B) := by
  intro n hn hp id a hid hs
  obtain ⟨n', rfl, hn'⟩ := succ_of hn
  obtain ⟨_, a2, hp2, ⟨w, hw, rfl, hg⟩, s2, f2, c2⟩ := gv n' hn' (hp.new ⟨zero, 7, false, 0⟩) id a (Nat.lt_succ_of_lt hid) (by rw [new_get _ _ hid]; exact hs)
  obtain ⟨x0, x1, x2, x3, x4, x5, rfl⟩ := lst6 hw
  have hn2 : hp.next < hp2.next := f2.1
  have k2 := f2.kept hid
  -- v
  have k3 : (hp2.new ⟨zero, 7, false, 0⟩).get hp2.next = some ⟨zero, 7, false, 0⟩ := get_new_next _ _
  have q3 := store31 k3 rfl (v := [x0, x1, x2, x3, x4, x5] ++ [nl]) rfl
  generalize he4 : (hp2.new ⟨zero, 7, false, 0⟩).put hp2.next ⟨[x0, x1, x2, x3, x4, x5] ++ [nl], 7, false, 0⟩ = hp4 at q3
  have n4 : hp4.next = hp2.next + 1 := by rw [← he4]; rfl
  have g4 : ∀ j, j < hp2.next → hp4.get j = hp2.get j := fun j hj => by rw [← he4, put_ne _ _ (by omega), new_get _ _ hj]
  have k4 : hp4.get hp2.next = some ⟨[x0, x1, x2, x3, x4, x5, nl], 7, false, 0⟩ := by rw [← he4]; exact put_at _ k3
  obtain ⟨l, a5, hp5, hlab, s5, f5, c5⟩ := gLabels (R := R) hl hz n' (by omega) hp4 id a2 (by omega) ((g4 id (by omega)).trans s2)
  have n5 : hp2.next + 1 ≤ hp5.next := by have := f5.1; omega
  have k5 : hp5.get hp2.next = some ⟨[x0, x1, x2, x3, x4, x5, nl], 7, false, 0⟩ := (f5.2 hp2.next (by omega) (by omega)).trans k4
  have q5 := store29 k5 (cell_cells (c_labels l hlab))
  have q6 : primLoad tys (hp5.put hp2.next ⟨[x0, x1, x2, x3, x4, x5, l], 7, false, 0⟩) 31 (some (.ptr hp2.next 0)) = some (.agg [x0, x1, x2, x3, x4, x5, l], hp5.put hp2.next ⟨[x0, x1, x2, x3, x4, x5, l], 7, false, 0⟩) := load31 (put_at _ k5) rfl
  have kk : (hp5.put hp2.next ⟨[x0, x1, x2, x3, x4, x5, l], 7, false, 0⟩).get hp.next = some ⟨zero, 7, false, 0⟩ := by
    rw [put_ne _ _ (by omega), f5.2 hp.next (by omega) (by omega), g4 hp.next hn2]; exact k2
  have q7 := store31 kk rfl (v := [x0, x1, x2, x3, x4, x5, l]) rfl
  have q8 := loadAt31 (put_at ⟨[x0, x1, x2, x3, x4, x5, l], 7, false, 0⟩ kk) rfl
  refine ⟨.agg [x0, x1, x2, x3, x4, x5, l], a5, (hp5.put hp2.next ⟨[x0, x1, x2, x3, x4, x5, l], 7, false, 0⟩).put hp.next ⟨[x0, x1, x2, x3, x4, x5, l], 7, false, 0⟩, ⟨_, rfl, hg l hlab⟩, ?_, ?_, fun k => ?_⟩
  · rw [put_ne _ _ (by omega), put_ne _ _ (by omega)]; exact s5
  · refine ⟨by show hp.next ≤ hp5.next; omega, fun j hj hne => ?_⟩
    rw [put_ne _ _ (by omega), put_ne _ _ (by omega), f5.2 j (by omega) hne, g4 j (by omega)]
    exact f2.from.2 j hj hne
  · rw [call_own (fi := e4) rfl rfl, b4, run_succ, c4_eq]
    simp only [ev_seq, r4_0a, alloc31, bP_some, seqK_normal, r4_1a, c2, q3, r4_2a, c5, fa31 _ _ 6 (by omega), q5, r4_3a, q6, q7, ev_ret, seqK_ret, endK_ret, z4a, q8, consO_some, oneR_one, bQ_some]
theorem leq_i (hp : Hp) (a b : Nat) : primBin tys hp .leq 3 (some (i a)) (some (i b)) = some (.v (.bool (decide (a ≤ b))), hp) := by
  rw [primBin_eq, bin_int, int_leq, ret1_some', ileb_nat]
theorem gvalue1 (hl : IsL lp zs) (hz : zs.length ≤ 60) : Gen R lp 4 13 [i 1] (NV 20) := by
  intro n hn hp id a hid hs
  obtain ⟨n', rfl, hn'⟩ := succ_of hn
  obtain ⟨_, a2, hp2, ⟨w, hw, rfl, hg⟩, s2, f2, c2⟩ := gLeaf (R := R) hl hz n' hn' (hp.new ⟨zero, 7, false, 0⟩) id a (Nat.lt_succ_of_lt hid) (by rw [new_get _ _ hid]; exact hs)
  have h7 : (w ++ [nl]).length = 7 := by simp [hw]
  obtain ⟨q1, q2, q3, q4⟩ := fin31 hid rfl f2 s2 h7
  refine ⟨_, a2, _, ⟨w, hw, rfl, hg⟩, q2, q3, fun k => ?_⟩
  rw [call_own (fi := e13) rfl rfl, b13, run_succ, c13_eq]
  simp only [ev_seq, ev_cond, r13_0a, alloc31, bP_some, seqK_normal, r13_1a, leq_i, Nat.le_refl, opd_tmp, alget, Nat.reduceEqDiff, reduceIte, decide_true, bB_true, r13_2a, c2, q1, ev_ret, seqK_ret, endK_ret, z13a, q4, consO_some, oneR_one, bQ_some]
/-- the kids of a tuple -/
theorem loopTup {h N B : Nat} (hh : h ≤ 100) (gv : Gen R lp N 4 [i h] (LV B)) : ∀ (m n : Nat), N + m ≤ n → ∀ {hp : Hp} {id a s0 : Nat} {x x4 : PV} {es : List (List PV)}, id < s0 → s0 ≤ hp.next → hp.get id = some (src lp a) → Acc 7 s0 hp x es → (∀ e ∈ es, GB B e) → es.length + m ≤ 3 →
    ∃ x' es' a' hp', hp'.get id = some (src lp a') ∧ Acc 7 s0 hp' x' es' ∧ (∀ e ∈ es', GB B e) ∧ es'.length = es.length + m ∧ Below s0 id hp hp' ∧
      ∀ k, evC tys e13 l13_0 (callF tys fnsO orc (run tys fnsO orc n)) (run (R := R) tys fnsO orc n) ⟨[(0, .ptr id 0), (1, i (h + 1)), (4, x4), (5, x), (6, i m)], hp⟩ k = k (.exit 1) ⟨[(0, .ptr id 0), (1, i (h + 1)), (4, x4), (5, x'), (6, i 0), (29, .v (.bool false))], hp'⟩
  | 0, n, hn, hp, id, a, s0, x, x4, es, hid, hs0, hs, hx, he, hl => by
    refine ⟨x, es, a, hp, hs, hx, he, rfl, Below.refl _ _ _, fun k => ?_⟩
    rw [l13_0_eq]
    simp only [ev_loop, ev_seq, ev_cond, r13_7a, gtr_0, bP_some, seqK_normal, opd_tmp, alget, Nat.reduceEqDiff, reduceIte, bB_false, ev_exit, seqK_exit]
  | m + 1, n, hn, hp, id, a, s0, x, x4, es, hid, hs0, hs, hx, he, hl => by
    obtain ⟨n', rfl, hn'⟩ := succ_of (N := N + m) (n := n) (by omega)
    obtain ⟨_, a1, hp1, ⟨v, rfl, hv⟩, s1, f1, c1⟩ := gv (n' + 1) (by omega) hp id a (by omega) hs
    have hx1 := hx.fr hid f1
    obtain ⟨x2, hp2, p2, hx2, n2, g2⟩ := hx1.app sl26 (Nat.le_trans hs0 f1.1) (e := v) hv.1.seven (by omega)
    have b2 : Below s0 id hp1 hp2 := app_below hx1 (Nat.le_trans hs0 f1.1) n2 g2
    have s2 : hp2.get id = some (src lp a1) := (g2 id (by have := f1.1; omega) fun o l c s e => by have := hx1.own _ _ _ _ _ e; omega).trans s1
    have he2 : ∀ e ∈ es ++ [v], GB B e := by
      intro e h; rcases List.mem_append.1 h with h | h
      · exact he e h
      · simp at h; subst h; exact hv
    obtain ⟨x3, es3, a3, hp3, s3, hx3, he3, hl3, b3, c3⟩ := loopTup hh gv m n' hn' (x4 := x4) hid (Nat.le_trans hs0 (Nat.le_trans f1.1 n2)) s2 hx2 he2 (by simp; omega)
    refine ⟨x3, es3, a3, hp3, s3, hx3, he3, by rw [hl3]; simp; omega, ((f1.below hs0).trans b2).trans b3, fun k => ?_⟩
    rw [l13_0_eq]
    simp only [ev_loop, ev_seq, ev_cond, ev_block, ev_skip, r13_7a, gtr_i, bP_some, seqK_normal, blockK_normal, opd_tmp, alget, Nat.reduceEqDiff, reduceIte, bB_true, r13_9a, sub_i _ (h + 1) 1 (by omega) (by omega), Nat.add_sub_cancel, c1, mk26 _ hv.1.seven, p2, r13_8a, sub_i _ (m + 1) 1 (by omega) (by omega)]
    rw [← l13_0_eq, run_succ]
    exact c3 k
theorem gt_still {B : Nat} {es : List (List PV)} (he : ∀ e ∈ es, GB B e) : ∀ e ∈ es, ∀ c ∈ e, Still c := fun e h c hc => still_cell ((he e h).1.cells c hc)
theorem len_flat {B : Nat} : ∀ {es : List (List PV)}, (∀ e ∈ es, GB B e) → es.flatten.length = 7 * es.length := fun he => seven_flat fun e h => (he e h).1.seven
end
end Go.Ev.D

/- Drawing: entries of functions. -/
namespace Go.Ev.D
open Go.Proofs
theorem lst9 {v : List PV} (h : v.length = 9) : ∃ a b c d e f g x y, v = [a, b, c, d, e, f, g, x, y] := by
  rcases v with _ | ⟨a, _ | ⟨b, v⟩⟩
  · simp at h
  · simp at h
  · obtain ⟨c, d, e, f, g, x, y, rfl⟩ := lst7 (v := v) (by simpa using h)
    exact ⟨a, b, c, d, e, f, g, x, y, rfl⟩
theorem store35 {hp : Hp} {a : Nat} {cs : List PV} (h : hp.get a = some ⟨cs, 9, false, 0⟩) (hc : cs.length = 9) {v : List PV} (hv : v.length = 9) :
    primStore tys hp 35 (some (.ptr a 0)) (some (.agg v)) = some (.un, hp.put a ⟨v, 9, false, 0⟩) := by
  obtain ⟨x0, x1, x2, x3, x4, x5, x6, x7, x8, rfl⟩ := lst9 hv
  obtain ⟨y0, y1, y2, y3, y4, y5, y6, y7, y8, rfl⟩ := lst9 hc
  show stored (match hp.get a with | none => none | some b => match sizeT tys 35 with | none => none | some sz => match pvCells (.agg [x0, x1, x2, x3, x4, x5, x6, x7, x8]) with | none => none | some xs => storeIn hp a 0 b xs sz) = _
  rw [h]
  rfl
theorem load35 {hp : Hp} {a : Nat} {v : List PV} {fz : Nat} (h : hp.get a = some ⟨v, 9, false, fz⟩) (hv : v.length = 9) : primLoad tys hp 35 (some (.ptr a 0)) = some (.agg v, hp) := by
  obtain ⟨x0, x1, x2, x3, x4, x5, x6, x7, x8, rfl⟩ := lst9 hv
  show ret1 hp (match hp.get a with | none => none | some b => partOf tys 35 b.cells 0) = _
  rw [h]
  rfl
theorem loadAt35 {hp : Hp} {a : Nat} {v : List PV} {fz : Nat} (h : hp.get a = some ⟨v, 9, false, fz⟩) (hv : v.length = 9) : loadAt tys hp 35 (.ptr a 0) = some (.agg v) := by
  obtain ⟨x0, x1, x2, x3, x4, x5, x6, x7, x8, rfl⟩ := lst9 hv
  show (match hp.get a with | none => none | some b => partOf tys 35 b.cells 0) = _
  rw [h]
  rfl
theorem store31_2 {hp : Hp} {a : Nat} {x y : PV} {cs : List PV} (h : hp.get a = some ⟨x :: y :: cs, 9, false, 0⟩) (hc : cs.length = 7) {v : List PV} (hv : v.length = 7) :
    primStore tys hp 31 (some (.ptr a 2)) (some (.agg v)) = some (.un, hp.put a ⟨x :: y :: v, 9, false, 0⟩) := by
  obtain ⟨x0, x1, x2, x3, x4, x5, x6, rfl⟩ := lst7 hv
  obtain ⟨y0, y1, y2, y3, y4, y5, y6, rfl⟩ := lst7 hc
  show stored (match hp.get a with | none => none | some b => match sizeT tys 31 with | none => none | some sz => match pvCells (.agg [x0, x1, x2, x3, x4, x5, x6]) with | none => none | some xs => storeIn hp a 2 b xs sz) = _
  rw [h]
  rfl
theorem fa35_0 (hp : Hp) (a : Nat) : primFieldAddr tys hp 35 0 (some (.ptr a 0)) = some (.ptr a 0, hp) := rfl
theorem fa35_1 (hp : Hp) (a : Nat) : primFieldAddr tys hp 35 1 (some (.ptr a 0)) = some (.ptr a 1, hp) := rfl
theorem fa35_2 (hp : Hp) (a : Nat) : primFieldAddr tys hp 35 2 (some (.ptr a 0)) = some (.ptr a 2, hp) := rfl
theorem load26 {hp : Hp} {b : Nat} {x : PV} {r : List PV} {fz : Nat} (h : hp.get b = some ⟨x :: r, 9, false, fz⟩) : primLoad tys hp 26 (some (.ptr b 0)) = some (x, hp) := load_cell (i := y26) rfl rfl h rfl
theorem loadAt26 {hp : Hp} {b : Nat} {x : PV} {r : List PV} {fz : Nat} (h : hp.get b = some ⟨x :: r, 9, false, fz⟩) : loadAt tys hp 26 (.ptr b 0) = some x := by
  show (match hp.get b with | none => none | some b => partOf tys 26 b.cells 0) = _
  rw [h]
  rfl
theorem store26 {hp : Hp} {b : Nat} {x y : PV} {r : List PV} (h : hp.get b = some ⟨x :: r, 9, false, 0⟩) (hc : pvCells y = some [y]) : primStore tys hp 26 (some (.ptr b 0)) (some y) = some (.un, hp.put b ⟨y :: r, 9, false, 0⟩) :=
  store_cell (i := y26) rfl rfl h rfl hc (by cases r <;> rfl)
theorem store4 {hp : Hp} {b : Nat} {x y : PV} {r : List PV} (h : hp.get b = some ⟨x :: y :: r, 9, false, 0⟩) (v : Bool) : primStore tys hp 4 (some (.ptr b 1)) (some (.v (.bool v))) = some (.un, hp.put b ⟨x :: bo v :: r, 9, false, 0⟩) :=
  store_cell (i := y4) rfl rfl h rfl rfl (by cases r <;> rfl)
theorem Acc.one {sz s0 : Nat} {hp : Hp} {x : PV} {es : List (List PV)} (h : Acc sz s0 hp x es) : pvCells x = some [x] ∧ idsLt 1000 hp.next x = true ∧ peq 1000 x x = true := by
  rcases h.acc.2 with ⟨rfl, _⟩ | ⟨j, rfl, hj, _⟩
  · exact ⟨rfl, rfl, rfl⟩
  · refine ⟨rfl, ?_, ?_⟩
    · show Nat.blt j hp.next = true
      exact Nat.ble_eq_true_of_le hj
    · unfold peq
      simp only [Nat.beq_refl, Bool.and_self]
theorem lgE (i m : Nat) (ld : List (Nat × TypeId × PV × PV)) (ef : List (Nat × Hp)) (al : List Nat) {h h' : Hp} (h1 : effsIn m ef = true) (h2 : allocsIn m al = true) (h3 : loadsKept tys m h' ld = true) (h4 : h.next ≤ h'.next) : logEff tys i m ⟨ld, ef, al⟩ h h' = some ⟨ld, (i, h) :: ef, al⟩ := by
  unfold logEff
  simp only [h1, h2, h3, Nat.ble_eq_true_of_le h4, Bool.and_self]
theorem lgL (i m : Nat) (n : Nat) {x : PV} (t : TypeId) (id off : Nat) (hx : idsLt 1000 n x = true) : logLoad tys i m ⟨[], [], []⟩ n x (some (t, .ptr id off)) = some ⟨[(i, t, .ptr id off, x)], [], []⟩ := by
  show (match loadOld tys m t (.ptr id off) x [] && idsLt 1000 n x with | true => some _ | false => none) = _
  rw [hx]
  rfl
theorem kept1 (m i t : Nat) (p x : PV) (h : Hp) (hl : loadAt tys h t p = some x) (hx : peq 1000 x x = true) : loadsKept tys m h [(i, t, p, x)] = true := by
  unfold loadsKept loadsKept samePV
  rw [hl]
  simp only [hx, Bool.or_true, Bool.and_self]
section
variable [E : Env]
variable {R : Type} {lp : PV} {zs : List Int}
/-- what is left alone below s0, but for two blocks -/
def Below2 (s0 id b : Nat) (hp hp' : Hp) : Prop := hp.next ≤ hp'.next ∧ ∀ j, j < s0 → j ≠ id → j ≠ b → hp'.get j = hp.get j
theorem loopEnt {h N B : Nat} (gv : Gen R lp N 4 [i h] (LV B)) : ∀ (m n : Nat), N + m ≤ n → ∀ {hp : Hp} {id a s0 b7 : Nat} {x x6 : PV} {es : List (List PV)} {z : List PV}, id < s0 → b7 < s0 → b7 ≠ id → s0 ≤ hp.next → hp.get id = some (src lp a) → hp.get b7 = some ⟨x :: z, 9, false, 0⟩ → Acc 7 s0 hp x es → (∀ e ∈ es, GB B e) → es.length + m ≤ 3 →
    ∃ x' es' a' hp', hp'.get id = some (src lp a') ∧ hp'.get b7 = some ⟨x' :: z, 9, false, 0⟩ ∧ Acc 7 s0 hp' x' es' ∧ (∀ e ∈ es', GB B e) ∧ es'.length = es.length + m ∧ Below2 s0 id b7 hp hp' ∧
      ∀ k, evC tys e36 l36_0 (callF tys fnsO orc (run tys fnsO orc n)) (run (R := R) tys fnsO orc n) ⟨[(0, .ptr id 0), (1, i m), (2, i h), (6, x6), (7, .ptr b7 0)], hp⟩ k = k (.exit 0) ⟨[(0, .ptr id 0), (1, i 0), (2, i h), (6, x6), (7, .ptr b7 0), (9, .v (.bool false))], hp'⟩
  | 0, n, hn, hp, id, a, s0, b7, x, x6, es, z, hid, hb, hbi, hs0, hs, hk, hx, he, hl => by
    refine ⟨x, es, a, hp, hs, hk, hx, he, rfl, ⟨Nat.le_refl _, fun _ _ _ _ => rfl⟩, fun k => ?_⟩
    rw [l36_0_eq]
    simp only [ev_loop, ev_seq, ev_cond, r36_2a, gtr_0, bP_some, seqK_normal, opd_tmp, alget, Nat.reduceEqDiff, reduceIte, bB_false, ev_exit, seqK_exit]
  | m + 1, n, hn, hp, id, a, s0, b7, x, x6, es, z, hid, hb, hbi, hs0, hs, hk, hx, he, hl => by
    obtain ⟨n', rfl, hn'⟩ := succ_of (N := N + m) (n := n) (by omega)
    obtain ⟨_, a1, hp1, ⟨v, rfl, hv⟩, s1, f1, c1⟩ := gv (n' + 1) (by omega) hp id a (by omega) hs
    have hx1 := hx.fr hid f1
    have n1 := f1.1
    have k1 : hp1.get b7 = some ⟨x :: z, 9, false, 0⟩ := (f1.2 b7 (by omega) hbi).trans hk
    obtain ⟨x2, hp2, p2, hx2, n2', g2⟩ := hx1.app' sl26 (Nat.le_trans hs0 n1) (e := v) hv.1.seven (by omega)
    have n2 : hp1.next ≤ hp2.next := Nat.le_of_succ_le n2'
    have low2 : ∀ j, j < s0 → hp2.get j = hp1.get j := fun j hj => g2 j (by omega) fun o l c s e => by have := hx1.own _ _ _ _ _ e; omega
    have s2 : hp2.get id = some (src lp a1) := (low2 id hid).trans s1
    have k2 : hp2.get b7 = some ⟨x :: z, 9, false, 0⟩ := (low2 b7 hb).trans k1
    have q3 := store26 k2 hx2.one.1
    have hx3 : Acc 7 s0 (hp2.put b7 ⟨x2 :: z, 9, false, 0⟩) x2 (es ++ [v]) := hx2.keep (Nat.le_refl _) fun j h1 h2 => put_ne _ _ (by omega)
    have he2 : ∀ e ∈ es ++ [v], GB B e := by
      intro e h; rcases List.mem_append.1 h with h | h
      · exact he e h
      · simp at h; subst h; exact hv
    obtain ⟨x4, es4, a4, hp4, s4, k4, hx4, he4, hl4, b4, c4⟩ := loopEnt gv m n' hn' (x6 := x6) (z := z) hid hb hbi (hp := hp2.put b7 ⟨x2 :: z, 9, false, 0⟩) (Nat.le_trans hs0 (Nat.le_trans n1 n2)) ((put_ne _ _ (Ne.symm hbi)).trans s2) (put_at _ k2) hx3 he2 (by simp; omega)
    have nn : hp2.next ≤ hp4.next := b4.1
    refine ⟨x4, es4, a4, hp4, s4, k4, hx4, he4, by rw [hl4]; simp; omega, ⟨by omega, fun j hj h1 h2 => ?_⟩, fun k => ?_⟩
    · rw [b4.2 j hj h1 h2, put_ne _ _ h2, low2 j hj]
      exact f1.2 j (by omega) h1
    · have L1 := lgL 1 1 hp.next 26 b7 0 hx.one.2.1
      have L2 := lgE 4 12 [(1, 26, .ptr b7 0, x)] [] [] (h := hp) (h' := hp1) rfl rfl (kept1 _ _ _ _ _ _ (loadAt26 k1) hx.one.2.2) n1
      have L3 := lgE 6 63 [(1, 26, .ptr b7 0, x)] [(4, hp)] [5] (h := hp1.new ⟨v, 7, false, 0⟩) (h' := hp2) (by kernel_rfl) (by kernel_rfl) (by kernel_rfl) n2'
      have L4 := lgE 8 255 [(1, 26, .ptr b7 0, x)] [(6, hp1.new ⟨v, 7, false, 0⟩), (4, hp)] [5] (h := hp2) (h' := hp2.put b7 ⟨x2 :: z, 9, false, 0⟩) (by kernel_rfl) (by kernel_rfl) (by kernel_rfl) (Nat.le_refl _)
      rw [l36_0_eq]
      simp only [ev_loop, ev_seq, ev_cond, ev_block, ev_skip, r36_2a, gtr_i, bP_some, bLg_some, seqK_normal, blockK_normal, opd_tmp, alget, Nat.reduceEqDiff, reduceIte, bB_true, r36_4a, fa35_0, load26 hk, L1, c1, L2, mk26 _ hv.1.seven, p2, lgAlloc, L3, q3, L4, r36_3a, sub_i _ (m + 1) 1 (by omega) (by omega), Nat.add_sub_cancel]
      rw [← l36_0_eq, run_succ]
      exact c4 k
/-- an entry as it stands in the heap: a slice that has grown, and a result or none -/
def entX (x : PV) : Option (List PV) → List PV
  | none => x :: bo true :: zero
  | some v => x :: bo false :: v
theorem gEntry (hl : IsL lp zs) (hz : zs.length ≤ 60) {h N B : Nat} (gv : Gen R lp N 4 [i h] (LV B)) {c : Nat} (hc : c ≤ 2) : ∀ n, N + 5 ≤ n → ∀ (hp : Hp) (id a : Nat), id < hp.next → hp.get id = some (src lp a) →
    ∃ x xs r a' hp', Acc 7 hp.next hp' x xs ∧ xs.length = c ∧ (∀ e ∈ xs, GB B e) ∧ (∀ v, r = some v → GB B v) ∧ hp'.get id = some (src lp a') ∧ Fr id hp hp' ∧ ∀ k : PV → Hp → Option R, callF tys fnsO orc (run tys fnsO orc n) 36 [.ptr id 0, i c, i h] hp k = k (.agg (entX x r)) hp' := by
  intro n hn hp id a hid hs
  obtain ⟨n', rfl, hn'⟩ := succ_of (N := N + 4) (n := n) (by omega)
  -- two blocks
  generalize hA : hp.new ⟨nl :: bo false :: zero, 9, false, 0⟩ = hpA
  have nA : hpA.next = hp.next + 1 := by rw [← hA]; rfl
  have kA6 : hpA.get hp.next = some ⟨nl :: bo false :: zero, 9, false, 0⟩ := by rw [← hA]; exact get_new_next _ _
  have gA : ∀ j, j < hp.next → hpA.get j = hp.get j := fun j hj => by rw [← hA]; exact new_get _ _ hj
  generalize hB : hpA.new ⟨nl :: bo false :: zero, 9, false, 0⟩ = hpB
  have nB : hpB.next = hp.next + 2 := by rw [← hB]; show hpA.next + 1 = _; omega
  have kB7 : hpB.get hpA.next = some ⟨nl :: bo false :: zero, 9, false, 0⟩ := by rw [← hB]; exact get_new_next _ _
  have gB : ∀ j, j < hp.next + 1 → hpB.get j = hpA.get j := fun j hj => by rw [← hB]; exact new_get _ _ (by omega)
  rw [nA] at kB7
  have sB : hpB.get id = some (src lp a) := (gB id (by omega)).trans ((gA id hid).trans hs)
  obtain ⟨x1, xs, a1, hp1, s1, k1, hx1, he1, hl1, b1, c1⟩ := loopEnt gv c n' (by omega) (x6 := .ptr hp.next 0) (z := bo false :: zero) (id := id) (s0 := hp.next + 2) (b7 := hp.next + 1) (hp := hpB) (by omega) (by omega) (by omega) (by omega) sB kB7 (Acc.nil 7 _ _) (by simp) (by simp; omega)
  have n1 := b1.1
  have k16 : hp1.get hp.next = some ⟨nl :: bo false :: zero, 9, false, 0⟩ := by
    rw [b1.2 hp.next (by omega) (by omega) (by omega), gB _ (by omega)]; exact kA6
  have g1 : ∀ j, j < hp.next → j ≠ id → hp1.get j = hp.get j := fun j hj hne => by rw [b1.2 j (by omega) hne (by omega), gB _ (by omega)]; exact gA j hj
  obtain ⟨_, a2, hp2, ⟨y, hy, rfl⟩, s2, f2, c2⟩ := gNext (R := R) hl hz (m := 4) (by omega) (by omega) n' (by omega) hp1 id a1 (by omega) s1
  have n2 := f2.1
  have k2 : hp2.get (hp.next + 1) = some ⟨x1 :: bo false :: zero, 9, false, 0⟩ := (f2.2 _ (by omega) (by omega)).trans k1
  have k26 : hp2.get hp.next = some ⟨nl :: bo false :: zero, 9, false, 0⟩ := (f2.2 _ (by omega) (by omega)).trans k16
  have hx2 := hx1.fr (id := id) (by omega) f2
  have hlen : xs.length = c := by simpa using hl1
  by_cases h1 : y = 1
  · subst h1
    have q3 := store4 k2 true
    generalize hC : hp2.put (hp.next + 1) ⟨x1 :: bo true :: zero, 9, false, 0⟩ = hpC at q3
    have kC : hpC.get (hp.next + 1) = some ⟨x1 :: bo true :: zero, 9, false, 0⟩ := by rw [← hC]; exact put_at _ k2
    have gC : ∀ j, j ≠ hp.next + 1 → hpC.get j = hp2.get j := fun j hj => by rw [← hC]; exact put_ne _ _ hj
    have nC : hpC.next = hp2.next := by rw [← hC]; rfl
    have kC6 : hpC.get hp.next = some ⟨nl :: bo false :: zero, 9, false, 0⟩ := (gC _ (by omega)).trans k26
    have q4 := load35 kC rfl
    have q5 := store35 kC6 rfl (v := x1 :: bo true :: zero) rfl
    have q6 := loadAt35 (put_at ⟨x1 :: bo true :: zero, 9, false, 0⟩ kC6) rfl
    refine ⟨x1, xs, none, a2, hpC.put hp.next ⟨x1 :: bo true :: zero, 9, false, 0⟩, ?_, hlen, he1, by simp, ?_, ?_, fun k => ?_⟩
    · have := hx2.keep (hp' := hpC.put hp.next ⟨x1 :: bo true :: zero, 9, false, 0⟩) (by show hp2.next ≤ hpC.next; omega) fun j h1 h2 => by rw [put_ne _ _ (by omega), gC _ (by omega)]
      exact ⟨this.acc, fun j o l c s e => by have := this.own j o l c s e; omega, this.emp⟩
    · rw [put_ne _ _ (by omega), gC _ (by omega)]; exact s2
    · refine ⟨by show hp.next ≤ hpC.next; omega, fun j hj hne => ?_⟩
      rw [put_ne _ _ (by omega), gC _ (by omega), f2.2 j (by omega) hne]
      exact g1 j hj hne
    · rw [call_own (fi := e36) rfl rfl, b36, run_succ, c36_eq]
      simp only [ev_seq, ev_block, ev_cond, r36_0a, alloc35, bP_some, seqK_normal, hA, r36_1a, hB, nA, c1, seqK_exit, blockK_at, Nat.reduceEqDiff, reduceIte, r36_5a, c2, eq_i, decide_true, opd_tmp, alget, bB_true, r36_6a, fa35_1, q3, r36_7a, q4, q5, ev_ret, seqK_ret, blockK_ret, endK_ret, z36a, q6, consO_some, oneR_one, bQ_some, entX]
  · obtain ⟨_, a3, hp3, ⟨v, rfl, hv⟩, s3, f3, c3⟩ := gv n' (by omega) hp2 id a2 (by omega) s2
    have n3 := f3.1
    have k3 : hp3.get (hp.next + 1) = some ⟨x1 :: bo false :: zero, 9, false, 0⟩ := (f3.2 _ (by omega) (by omega)).trans k2
    have k36 : hp3.get hp.next = some ⟨nl :: bo false :: zero, 9, false, 0⟩ := (f3.2 _ (by omega) (by omega)).trans k26
    have hx3 := hx2.fr (id := id) (by omega) f3
    have q3 := store31_2 k3 rfl hv.1.seven
    generalize hC : hp3.put (hp.next + 1) ⟨x1 :: bo false :: v, 9, false, 0⟩ = hpC at q3
    have kC : hpC.get (hp.next + 1) = some ⟨x1 :: bo false :: v, 9, false, 0⟩ := by rw [← hC]; exact put_at _ k3
    have gC : ∀ j, j ≠ hp.next + 1 → hpC.get j = hp3.get j := fun j hj => by rw [← hC]; exact put_ne _ _ hj
    have nC : hpC.next = hp3.next := by rw [← hC]; rfl
    have kC6 : hpC.get hp.next = some ⟨nl :: bo false :: zero, 9, false, 0⟩ := (gC _ (by omega)).trans k36
    have h9 : (x1 :: bo false :: v).length = 9 := by simp [hv.1.seven]
    have q4 := load35 kC h9
    have q5 := store35 kC6 rfl h9
    have q6 := loadAt35 (put_at ⟨x1 :: bo false :: v, 9, false, 0⟩ kC6) h9
    refine ⟨x1, xs, some v, a3, hpC.put hp.next ⟨x1 :: bo false :: v, 9, false, 0⟩, ?_, hlen, he1, by intro w e; cases e; exact hv, ?_, ?_, fun k => ?_⟩
    · have := hx3.keep (hp' := hpC.put hp.next ⟨x1 :: bo false :: v, 9, false, 0⟩) (by show hp3.next ≤ hpC.next; omega) fun j h1 h2 => by rw [put_ne _ _ (by omega), gC _ (by omega)]
      exact ⟨this.acc, fun j o l c s e => by have := this.own j o l c s e; omega, this.emp⟩
    · rw [put_ne _ _ (by omega), gC _ (by omega)]; exact s3
    · refine ⟨by show hp.next ≤ hpC.next; omega, fun j hj hne => ?_⟩
      rw [put_ne _ _ (by omega), gC _ (by omega), f3.2 j (by omega) hne, f2.2 j (by omega) hne]
      exact g1 j hj hne
    · rw [call_own (fi := e36) rfl rfl, b36, run_succ, c36_eq]
      simp only [ev_seq, ev_block, ev_cond, ev_skip, r36_0a, alloc35, bP_some, seqK_normal, hA, r36_1a, hB, nA, c1, seqK_exit, blockK_at, Nat.reduceEqDiff, reduceIte, r36_5a, c2, eq_i, h1, decide_false, opd_tmp, alget, bB_false, r36_8a, c3, fa35_2, q3, r36_9a, q4, q5, ev_ret, seqK_ret, blockK_ret, endK_ret, z36a, q6, consO_some, oneR_one, bQ_some, entX]
end
end Go.Ev.D
