/- The law: what follows the drawing. -/
import Derived.Test.YtpahaogeenalpaaGreatEvWc
import Derived.Test.YtpahaogeenalpaaGreatEvReg
set_option linter.all false
/- The law: what follows the drawing. -/
namespace Go.Ev.D
open Go.Proofs
/-! ### what is noted where nothing changes -/
structure Lok (hp : Hp) (lg : Lg) : Prop where
  loads : ∀ y ∈ lg.loads, loadAt tys hp y.2.1 y.2.2.1 = some y.2.2.2 ∧ peq 1000 y.2.2.2 y.2.2.2 = true
  effs : ∀ y ∈ lg.effs, y.2 = hp
  allocs : lg.allocs = []
def en (lg : Lg) : List Nat := lg.effs.map fun y => y.1
theorem effsIn_en (m : Nat) : ∀ (ef : List (Nat × Hp)), effsIn m ef = (ef.map fun y => y.1).all fun e => m.testBit e
  | [] => rfl
  | y :: r => by
    obtain ⟨e, h⟩ := y
    simp only [effsIn, List.map_cons, List.all_cons, effsIn_en m r]
theorem loadsKept_all {m : Nat} {hp : Hp} : ∀ {ld : List (Nat × TypeId × PV × PV)}, (∀ y ∈ ld, loadAt tys hp y.2.1 y.2.2.1 = some y.2.2.2 ∧ peq 1000 y.2.2.2 y.2.2.2 = true) → loadsKept tys m hp ld = true
  | [], _ => rfl
  | (j, t, p, x) :: r, h => by
    have h1 := h (j, t, p, x) (by simp)
    have h2 := loadsKept_all (m := m) (ld := r) fun y hy => h y (by simp [hy])
    unfold loadsKept samePV
    simp only at h1
    rw [h1.1]
    simp only [h1.2, Bool.or_true, h2, Bool.and_self]
theorem loadOld_all {m : Nat} {hp : Hp} {t : Nat} {p x : PV} (hl : loadAt tys hp t p = some x) (hx : peq 1000 x x = true) : ∀ {ef : List (Nat × Hp)}, (∀ y ∈ ef, y.2 = hp) → loadOld tys m t p x ef = true
  | [], _ => rfl
  | (e, h) :: r, hh => by
    have h1 : h = hp := hh (e, h) (by simp)
    have h2 := loadOld_all (m := m) hl hx (ef := r) fun y hy => hh y (by simp [hy])
    unfold loadOld samePV
    rw [h1, hl]
    simp only [hx, Bool.or_true, h2, Bool.and_self]
theorem lok0 (hp : Hp) : Lok hp ⟨[], [], []⟩ := ⟨by simp, by simp, rfl⟩
theorem stepL {hp : Hp} {lg : Lg} (k : Lok hp lg) {l : List Nat} (hn : en lg = l) (i m : Nat) {t id off : Nat} {x : PV} (hl : loadAt tys hp t (.ptr id off) = some x) (hx : peq 1000 x x = true) (hi : idsLt 1000 hp.next x = true) :
    ∃ lg', logLoad tys i m lg hp.next x (some (t, .ptr id off)) = some lg' ∧ Lok hp lg' ∧ en lg' = l := by
  refine ⟨⟨(i, t, .ptr id off, x) :: lg.loads, lg.effs, lg.allocs⟩, ?_, ⟨?_, k.effs, k.allocs⟩, hn⟩
  · show (match loadOld tys m t (.ptr id off) x lg.effs && idsLt 1000 hp.next x with | true => some _ | false => none) = _
    rw [loadOld_all hl hx k.effs, hi]
    rfl
  · intro y hy
    rcases List.mem_cons.1 hy with rfl | hy
    · exact ⟨hl, hx⟩
    · exact k.loads y hy
theorem stepE {hp : Hp} {lg : Lg} (k : Lok hp lg) {l : List Nat} (hn : en lg = l) (i m : Nat) (hm : (l.all fun e => m.testBit e) = true) :
    ∃ lg', logEff tys i m lg hp hp = some lg' ∧ Lok hp lg' ∧ en lg' = i :: l := by
  refine ⟨⟨lg.loads, (i, hp) :: lg.effs, lg.allocs⟩, ?_, ⟨k.loads, ?_, k.allocs⟩, by simp only [en, List.map_cons]; exact congrArg _ hn⟩
  · unfold logEff
    have h1 : effsIn m lg.effs = true := by rw [effsIn_en]; unfold en at hn; rw [hn]; exact hm
    have h2 : allocsIn m lg.allocs = true := by rw [k.allocs]; rfl
    simp only [h1, h2, loadsKept_all k.loads, Nat.ble_eq_true_of_le (Nat.le_refl _), Bool.and_self]
  · intro y hy
    rcases List.mem_cons.1 hy with rfl | hy
    · rfl
    · exact k.effs y hy
theorem eq_b (hp : Hp) (a b : Bool) : primBin tys hp .eql 4 (some (bo a)) (some (bo b)) = some (bo (a == b), hp) := by
  cases a <;> cases b <;> rfl
theorem not_b (hp : Hp) (a : Bool) : primUn hp .not (some (bo a)) = some (bo (!a), hp) := rfl
theorem eq_2 (hp : Hp) (a b : Nat) : primBin tys hp .eql 2 (some (i a)) (some (i b)) = some (.v (.bool (decide (a = b))), hp) := by
  rw [primBin_eq, bin_int, int_eql, ret1_some', ieqb_nat]
theorem kept4 {R : Type} (k : Ex → St → Option R) (tm : Tm) (x : PV) (hp : Hp) : kept (e3.live.get 11) (e3.kills.get 11) k ⟨(4, x) :: tm, hp⟩ = k .normal ⟨[(4, x)], hp⟩ := by kernel_rfl
section
variable [E : Env]
variable {R : Type}
theorem fz_vt {v : List PV} (hv : GV v) {t : PV} (ht : t ∈ tys13) (hp : Hp) : freezeL deepN hp [.agg v, t] = some ([.agg v, t], hp) := by
  have h1 := fz_agg (n := 997) (fun c hc => still_cell (hv.cells c hc)) (by rw [hv.seven]; omega) hp
  have h2 : freeze 998 hp t = some (t, hp) := by
    simp only [tys13, List.mem_cons, List.not_mem_nil, or_false] at ht
    rcases ht with rfl | rfl | rfl | rfl | rfl | rfl | rfl | rfl | rfl | rfl | rfl | rfl | rfl <;> rfl
  exact freezeL_cons (n := 999) h1 (freezeL_cons (n := 998) h2 rfl)
theorem fz_i (a : Nat) (hp : Hp) : freezeL deepN hp [i a] = some ([i a], hp) := rfl
theorem ids_cells {v : List PV} (hc : ∀ c ∈ v, Cell c) (n : Nat) : idsLt 1000 n (.agg v) = true := by
  show v.all (idsLt 999 n) = true
  rw [List.all_eq_true]
  intro c h
  rcases (hc c h).2 with ⟨x, rfl⟩ | ⟨es, ex, rfl⟩ <;> rfl
theorem ld3 {hp : Hp} {id kd : Nat} {r : List PV} {fz : Nat} (h : hp.get id = some ⟨i kd :: r, 7, false, fz⟩) : primLoad tys hp 3 (some (.ptr id 0)) = some (i kd, hp) ∧ loadAt tys hp 3 (.ptr id 0) = some (i kd) := by
  have e : loadAt tys hp 3 (.ptr id 0) = some (i kd) := by
    show (match hp.get id with | none => none | some b => partOf tys 3 b.cells 0) = _
    rw [h]
    rfl
  exact ⟨load_cell (i := y3) rfl rfl h rfl, e⟩
theorem ld2 {hp : Hp} {id kd n : Nat} {r : List PV} {fz : Nat} (h : hp.get id = some ⟨i kd :: i n :: r, 7, false, fz⟩) : primLoad tys hp 2 (some (.ptr id 1)) = some (i n, hp) ∧ loadAt tys hp 2 (.ptr id 1) = some (i n) := by
  have e : loadAt tys hp 2 (.ptr id 1) = some (i n) := by
    show (match hp.get id with | none => none | some b => partOf tys 2 b.cells 1) = _
    rw [h]
    rfl
  exact ⟨load_cell (i := y2) rfl rfl h rfl, e⟩
theorem peq_i (n : Nat) : peq 1000 (i n) (i n) = true := by
  unfold peq
  simp only [decide_true, Bool.true_and]
  show Nat.beq n n = true
  simp
theorem last_o {hp : Hp} {id a kd : Nat} {r : List PV} (hv : GB 180 (i kd :: r)) (hk : hp.get id = some ⟨i kd :: r, 7, false, 0⟩) (ha : a < 5) (h9 : (kd = 9) = False) (h5 : (kd = 5) = False) (hfe : fexp (i kd :: r) a = false) (hle : lexp (i kd :: r) = decide (kd = 7)) (n : Nat) (K : Ex → St → Option R) :
    evC tys e3 (.seq r3_11 .ret) (callF tys fnsO orc (run tys fnsO orc n)) (run tys fnsO orc n) ⟨[(6, .ptr id 0), (7, i a), (8, bo (texp (i kd :: r) a)), (11, bo false)], hp⟩ K = K .ret ⟨[(4, bo true)], hp⟩ := by
  have hg := hv.1
  have hpe : peq 1000 (.agg (i kd :: r)) (.agg (i kd :: r)) = true := by
    show peq (999 + 1) _ _ = true
    unfold peq
    have h999 : 180 ≤ 999 := by omega
    exact peqL_le h999 hv.2
  have hids := ids_cells hg.cells hp.next
  obtain ⟨tf, hf⟩ : ∃ t, tFuns[a]? = some t := ⟨_, List.getElem?_eq_getElem ha⟩
  obtain ⟨tt, ht⟩ : ∃ t, tTots[a]? = some t := ⟨_, List.getElem?_eq_getElem ha⟩
  have mf : tys13[a + 1]? = some tf ∧ mexp (i kd :: r) (a + 1) = fexp (i kd :: r) a := by
    match a, ha with
    | 0, _ => exact ⟨hf, rfl⟩
    | 1, _ => exact ⟨hf, rfl⟩
    | 2, _ => exact ⟨hf, rfl⟩
    | 3, _ => exact ⟨hf, rfl⟩
    | 4, _ => exact ⟨hf, rfl⟩
  have mt : tys13[a + 6]? = some tt ∧ mexp (i kd :: r) (a + 6) = texp (i kd :: r) a := by
    match a, ha with
    | 0, _ => exact ⟨ht, rfl⟩
    | 1, _ => exact ⟨ht, rfl⟩
    | 2, _ => exact ⟨ht, rfl⟩
    | 3, _ => exact ⟨ht, rfl⟩
    | 4, _ => exact ⟨ht, rfl⟩
  have oc := fun {f : Nat} (h0 : fnsO.get f = none) {l ds : List PV} {q : PV} (h1 : freezeL deepN hp l = some (ds, hp)) (h2 : orc f ds = some q) => asked (R := R) (O := orc) (rc := run tys fnsO orc n) (f := f) h0 h1 h2
  have c6 := oc (f := 6) rfl (fz0 hp) o6
  have c5d := oc (f := 5) rfl (fz_vt hg (t := tData) (by simp [tys13]) hp) (o5 hg (c := 0) rfl)
  have c7 := oc (f := 7) rfl (fzv1 hg hp) (o7 hg)
  have c8 := oc (f := 8) rfl (fz_i a hp) (o8 hf)
  have c5f := oc (f := 5) rfl (fz_vt hg (List.mem_of_getElem? mf.1) hp) (o5 hg mf.1)
  have c9 := oc (f := 9) rfl (fz_i a hp) (o9 ht)
  have c5t := oc (f := 5) rfl (fz_vt hg (List.mem_of_getElem? mt.1) hp) (o5 hg mt.1)
  have c10 := oc (f := 10) rfl (fz0 hp) o10
  have c5b := oc (f := 5) rfl (fz_vt hg (t := tBool) (by simp [tys13]) hp) (o5 hg (c := 11) rfl)
  have c11 := oc (f := 11) rfl (fz0 hp) o11
  have c5l := oc (f := 5) rfl (fz_vt hg (t := tList) (by simp [tys13]) hp) (o5 hg (c := 12) rfl)
  have c12 := oc (f := 12) rfl (fz0 hp) o12
  rw [mf.2] at c5f
  rw [mt.2] at c5t
  have m0 : mexp (i kd :: r) 0 = !hval (i kd :: r) := rfl
  have m11 : mexp (i kd :: r) 11 = false := rfl
  have m12 : mexp (i kd :: r) 12 = lexp (i kd :: r) := rfl
  have h31 := loadAt31 hk hg.seven
  have p31 := load31 hk hg.seven
  obtain ⟨p3, h3⟩ := ld3 hk
  have k0 := lok0 hp
  have n0 : en ⟨[], [], []⟩ = [] := rfl
  obtain ⟨g0, s0, k0, n0⟩ := stepL k0 n0 0 0 h31 hpe hids
  obtain ⟨g1, s1, k1, n1⟩ := stepE k0 n0 1 0 (by decide)
  obtain ⟨g2, s2, k2, n2⟩ := stepE k1 n1 2 3 (by decide)
  obtain ⟨g3, s3, k3, n3⟩ := stepL k2 n2 3 0 h31 hpe hids
  obtain ⟨g4, s4, k4, n4⟩ := stepE k3 n3 4 15 (by decide)
  obtain ⟨g8, s8, k8, n8⟩ := stepL k4 n4 8 255 h31 hpe hids
  obtain ⟨g10, s10, k10, n10⟩ := stepE k8 n8 10 767 (by decide)
  obtain ⟨g11, s11, k11, n11⟩ := stepE k10 n10 11 2047 (by decide)
  obtain ⟨g13, s13, k13, n13⟩ := stepL k11 n11 13 4351 h3 (peq_i _) rfl
  obtain ⟨g24, s24, k24, n24⟩ := stepL k13 n13 24 16777215 h31 hpe hids
  obtain ⟨g26, s26, k26, n26⟩ := stepE k24 n24 26 50331647 (by decide)
  obtain ⟨g27, s27, k27, n27⟩ := stepE k26 n26 27 134217727 (by decide)
  obtain ⟨g32, s32, k32, n32⟩ := stepL k27 n27 32 4294967295 h31 hpe hids
  obtain ⟨g33, s33, k33, n33⟩ := stepE k32 n32 33 4294967295 (by decide)
  obtain ⟨g34, s34, k34, n34⟩ := stepE k33 n33 34 17179869183 (by decide)
  obtain ⟨g39, s39, k39, n39⟩ := stepL k34 n34 39 549755813887 h31 hpe hids
  obtain ⟨g40, s40, k40, n40⟩ := stepE k39 n39 40 549755813887 (by decide)
  obtain ⟨g41, s41, k41, n41⟩ := stepE k40 n40 41 2199023255551 (by decide)
  obtain ⟨g43, s43, k43, n43⟩ := stepL k41 n41 43 4947802324991 h3 (peq_i _) rfl
  obtain ⟨g47, s47, k47, n47⟩ := stepL k43 n43 47 140737488355327 h3 (peq_i _) rfl
  obtain ⟨g53, s53, k53, n53⟩ := stepE k47 n47 53 9007199254740991 (by decide)
  rw [ev_seq, o3_11]
  rw [evOpsD_app]
  simp only [q3_11_0, bP_some, bLg_some, want_tt, want_tf, want_ft, want_ff, bWD_true, bWD_false, ranL_true, ranL_false, beq_self_eq_true, not_b, eq_b, eq_i, eq_2, pick_t, pick_f, pick_tu, pick_fu, decide_true, decide_false, p31, p3, fa31 _ _ 0 (by omega), fa31 _ _ 1 (by omega), Bool.not_true, Bool.not_false, s0, s1, s2, s3, s4, s8, s10, s11, s13, s24, s26, s27, s32, s33, s34, s39, s40, s41, s43, s47, s53, m0, m11, m12, c6, c5d, c7, c8, c5f, c9, c5t, c10, c5b, c11, c5l, c12, h9, h5, hfe, hle]
  rw [evOpsD_app]
  simp only [q3_11_1, bP_some, bLg_some, want_tt, want_tf, want_ft, want_ff, bWD_true, bWD_false, ranL_true, ranL_false, beq_self_eq_true, not_b, eq_b, eq_i, eq_2, pick_t, pick_f, pick_tu, pick_fu, decide_true, decide_false, p31, p3, fa31 _ _ 0 (by omega), fa31 _ _ 1 (by omega), Bool.not_true, Bool.not_false, s0, s1, s2, s3, s4, s8, s10, s11, s13, s24, s26, s27, s32, s33, s34, s39, s40, s41, s43, s47, s53, m0, m11, m12, c6, c5d, c7, c8, c5f, c9, c5t, c10, c5b, c11, c5l, c12, h9, h5, hfe, hle]
  rw [evOpsD_app]
  simp only [q3_11_2, bP_some, bLg_some, want_tt, want_tf, want_ft, want_ff, bWD_true, bWD_false, ranL_true, ranL_false, beq_self_eq_true, not_b, eq_b, eq_i, eq_2, pick_t, pick_f, pick_tu, pick_fu, decide_true, decide_false, p31, p3, fa31 _ _ 0 (by omega), fa31 _ _ 1 (by omega), Bool.not_true, Bool.not_false, s0, s1, s2, s3, s4, s8, s10, s11, s13, s24, s26, s27, s32, s33, s34, s39, s40, s41, s43, s47, s53, m0, m11, m12, c6, c5d, c7, c8, c5f, c9, c5t, c10, c5b, c11, c5l, c12, h9, h5, hfe, hle]
  rw [evOpsD_app]
  simp only [q3_11_3, bP_some, bLg_some, want_tt, want_tf, want_ft, want_ff, bWD_true, bWD_false, ranL_true, ranL_false, beq_self_eq_true, not_b, eq_b, eq_i, eq_2, pick_t, pick_f, pick_tu, pick_fu, decide_true, decide_false, p31, p3, fa31 _ _ 0 (by omega), fa31 _ _ 1 (by omega), Bool.not_true, Bool.not_false, s0, s1, s2, s3, s4, s8, s10, s11, s13, s24, s26, s27, s32, s33, s34, s39, s40, s41, s43, s47, s53, m0, m11, m12, c6, c5d, c7, c8, c5f, c9, c5t, c10, c5b, c11, c5l, c12, h9, h5, hfe, hle]
  rw [evOpsD_app]
  simp only [q3_11_4, bP_some, bLg_some, want_tt, want_tf, want_ft, want_ff, bWD_true, bWD_false, ranL_true, ranL_false, beq_self_eq_true, not_b, eq_b, eq_i, eq_2, pick_t, pick_f, pick_tu, pick_fu, decide_true, decide_false, p31, p3, fa31 _ _ 0 (by omega), fa31 _ _ 1 (by omega), Bool.not_true, Bool.not_false, s0, s1, s2, s3, s4, s8, s10, s11, s13, s24, s26, s27, s32, s33, s34, s39, s40, s41, s43, s47, s53, m0, m11, m12, c6, c5d, c7, c8, c5f, c9, c5t, c10, c5b, c11, c5l, c12, h9, h5, hfe, hle]
  rw [evOpsD_app]
  simp only [q3_11_5, bP_some, bLg_some, want_tt, want_tf, want_ft, want_ff, bWD_true, bWD_false, ranL_true, ranL_false, beq_self_eq_true, not_b, eq_b, eq_i, eq_2, pick_t, pick_f, pick_tu, pick_fu, decide_true, decide_false, p31, p3, fa31 _ _ 0 (by omega), fa31 _ _ 1 (by omega), Bool.not_true, Bool.not_false, s0, s1, s2, s3, s4, s8, s10, s11, s13, s24, s26, s27, s32, s33, s34, s39, s40, s41, s43, s47, s53, m0, m11, m12, c6, c5d, c7, c8, c5f, c9, c5t, c10, c5b, c11, c5l, c12, h9, h5, hfe, hle]
  rw [evOpsD_app]
  simp only [q3_11_6, bP_some, bLg_some, want_tt, want_tf, want_ft, want_ff, bWD_true, bWD_false, ranL_true, ranL_false, beq_self_eq_true, not_b, eq_b, eq_i, eq_2, pick_t, pick_f, pick_tu, pick_fu, decide_true, decide_false, p31, p3, fa31 _ _ 0 (by omega), fa31 _ _ 1 (by omega), Bool.not_true, Bool.not_false, s0, s1, s2, s3, s4, s8, s10, s11, s13, s24, s26, s27, s32, s33, s34, s39, s40, s41, s43, s47, s53, m0, m11, m12, c6, c5d, c7, c8, c5f, c9, c5t, c10, c5b, c11, c5l, c12, h9, h5, hfe, hle]
  rw [evOpsD_app]
  simp only [q3_11_7, bP_some, bLg_some, want_tt, want_tf, want_ft, want_ff, bWD_true, bWD_false, ranL_true, ranL_false, beq_self_eq_true, not_b, eq_b, eq_i, eq_2, pick_t, pick_f, pick_tu, pick_fu, decide_true, decide_false, p31, p3, fa31 _ _ 0 (by omega), fa31 _ _ 1 (by omega), Bool.not_true, Bool.not_false, s0, s1, s2, s3, s4, s8, s10, s11, s13, s24, s26, s27, s32, s33, s34, s39, s40, s41, s43, s47, s53, m0, m11, m12, c6, c5d, c7, c8, c5f, c9, c5t, c10, c5b, c11, c5l, c12, h9, h5, hfe, hle]
  rw [evOpsD_app]
  simp only [q3_11_8, bP_some, bLg_some, want_tt, want_tf, want_ft, want_ff, bWD_true, bWD_false, ranL_true, ranL_false, beq_self_eq_true, not_b, eq_b, eq_i, eq_2, pick_t, pick_f, pick_tu, pick_fu, decide_true, decide_false, p31, p3, fa31 _ _ 0 (by omega), fa31 _ _ 1 (by omega), Bool.not_true, Bool.not_false, s0, s1, s2, s3, s4, s8, s10, s11, s13, s24, s26, s27, s32, s33, s34, s39, s40, s41, s43, s47, s53, m0, m11, m12, c6, c5d, c7, c8, c5f, c9, c5t, c10, c5b, c11, c5l, c12, h9, h5, hfe, hle]
  rw [evOpsD_app]
  simp only [q3_11_9, bP_some, bLg_some, want_tt, want_tf, want_ft, want_ff, bWD_true, bWD_false, ranL_true, ranL_false, beq_self_eq_true, not_b, eq_b, eq_i, eq_2, pick_t, pick_f, pick_tu, pick_fu, decide_true, decide_false, p31, p3, fa31 _ _ 0 (by omega), fa31 _ _ 1 (by omega), Bool.not_true, Bool.not_false, s0, s1, s2, s3, s4, s8, s10, s11, s13, s24, s26, s27, s32, s33, s34, s39, s40, s41, s43, s47, s53, m0, m11, m12, c6, c5d, c7, c8, c5f, c9, c5t, c10, c5b, c11, c5l, c12, h9, h5, hfe, hle]
  rw [evOpsD_app]
  simp only [q3_11_10, bP_some, bLg_some, want_tt, want_tf, want_ft, want_ff, bWD_true, bWD_false, ranL_true, ranL_false, beq_self_eq_true, not_b, eq_b, eq_i, eq_2, pick_t, pick_f, pick_tu, pick_fu, decide_true, decide_false, p31, p3, fa31 _ _ 0 (by omega), fa31 _ _ 1 (by omega), Bool.not_true, Bool.not_false, s0, s1, s2, s3, s4, s8, s10, s11, s13, s24, s26, s27, s32, s33, s34, s39, s40, s41, s43, s47, s53, m0, m11, m12, c6, c5d, c7, c8, c5f, c9, c5t, c10, c5b, c11, c5l, c12, h9, h5, hfe, hle]
  rw [evOpsD_one]
  simp only [q3_11_11, bP_some, bLg_some, want_tt, want_tf, want_ft, want_ff, bWD_true, bWD_false, ranL_true, ranL_false, beq_self_eq_true, not_b, eq_b, eq_i, eq_2, pick_t, pick_f, pick_tu, pick_fu, decide_true, decide_false, p31, p3, fa31 _ _ 0 (by omega), fa31 _ _ 1 (by omega), Bool.not_true, Bool.not_false, s0, s1, s2, s3, s4, s8, s10, s11, s13, s24, s26, s27, s32, s33, s34, s39, s40, s41, s43, s47, s53, m0, m11, m12, c6, c5d, c7, c8, c5f, c9, c5t, c10, c5b, c11, c5l, c12, h9, h5, hfe, hle]
  rw [kept4, seqK_normal, ev_ret]
theorem last_n {hp : Hp} {id a : Nat} {r : List PV} (hv : GB 180 (i 5 :: r)) (hk : hp.get id = some ⟨i 5 :: r, 7, false, 0⟩) (ha : a < 5) (hfe : fexp (i 5 :: r) a = false) (hle : lexp (i 5 :: r) = true) (n : Nat) (K : Ex → St → Option R) :
    evC tys e3 (.seq r3_11 .ret) (callF tys fnsO orc (run tys fnsO orc n)) (run tys fnsO orc n) ⟨[(6, .ptr id 0), (7, i a), (8, bo (texp (i 5 :: r) a)), (11, bo false)], hp⟩ K = K .ret ⟨[(4, bo true)], hp⟩ := by
  have hg := hv.1
  have hpe : peq 1000 (.agg (i 5 :: r)) (.agg (i 5 :: r)) = true := by
    show peq (999 + 1) _ _ = true
    unfold peq
    have h999 : 180 ≤ 999 := by omega
    exact peqL_le h999 hv.2
  have hids := ids_cells hg.cells hp.next
  obtain ⟨tf, hf⟩ : ∃ t, tFuns[a]? = some t := ⟨_, List.getElem?_eq_getElem ha⟩
  obtain ⟨tt, ht⟩ : ∃ t, tTots[a]? = some t := ⟨_, List.getElem?_eq_getElem ha⟩
  have mf : tys13[a + 1]? = some tf ∧ mexp (i 5 :: r) (a + 1) = fexp (i 5 :: r) a := by
    match a, ha with
    | 0, _ => exact ⟨hf, rfl⟩
    | 1, _ => exact ⟨hf, rfl⟩
    | 2, _ => exact ⟨hf, rfl⟩
    | 3, _ => exact ⟨hf, rfl⟩
    | 4, _ => exact ⟨hf, rfl⟩
  have mt : tys13[a + 6]? = some tt ∧ mexp (i 5 :: r) (a + 6) = texp (i 5 :: r) a := by
    match a, ha with
    | 0, _ => exact ⟨ht, rfl⟩
    | 1, _ => exact ⟨ht, rfl⟩
    | 2, _ => exact ⟨ht, rfl⟩
    | 3, _ => exact ⟨ht, rfl⟩
    | 4, _ => exact ⟨ht, rfl⟩
  have oc := fun {f : Nat} (h0 : fnsO.get f = none) {l ds : List PV} {q : PV} (h1 : freezeL deepN hp l = some (ds, hp)) (h2 : orc f ds = some q) => asked (R := R) (O := orc) (rc := run tys fnsO orc n) (f := f) h0 h1 h2
  have c6 := oc (f := 6) rfl (fz0 hp) o6
  have c5d := oc (f := 5) rfl (fz_vt hg (t := tData) (by simp [tys13]) hp) (o5 hg (c := 0) rfl)
  have c7 := oc (f := 7) rfl (fzv1 hg hp) (o7 hg)
  have c8 := oc (f := 8) rfl (fz_i a hp) (o8 hf)
  have c5f := oc (f := 5) rfl (fz_vt hg (List.mem_of_getElem? mf.1) hp) (o5 hg mf.1)
  have c9 := oc (f := 9) rfl (fz_i a hp) (o9 ht)
  have c5t := oc (f := 5) rfl (fz_vt hg (List.mem_of_getElem? mt.1) hp) (o5 hg mt.1)
  have c10 := oc (f := 10) rfl (fz0 hp) o10
  have c5b := oc (f := 5) rfl (fz_vt hg (t := tBool) (by simp [tys13]) hp) (o5 hg (c := 11) rfl)
  have c11 := oc (f := 11) rfl (fz0 hp) o11
  have c5l := oc (f := 5) rfl (fz_vt hg (t := tList) (by simp [tys13]) hp) (o5 hg (c := 12) rfl)
  have c12 := oc (f := 12) rfl (fz0 hp) o12
  rw [mf.2] at c5f
  rw [mt.2] at c5t
  have m0 : mexp (i 5 :: r) 0 = !hval (i 5 :: r) := rfl
  have m11 : mexp (i 5 :: r) 11 = false := rfl
  have m12 : mexp (i 5 :: r) 12 = lexp (i 5 :: r) := rfl
  have h31 := loadAt31 hk hg.seven
  have p31 := load31 hk hg.seven
  obtain ⟨p3, h3⟩ := ld3 hk
  have k0 := lok0 hp
  have n0 : en ⟨[], [], []⟩ = [] := rfl
  obtain ⟨g0, s0, k0, n0⟩ := stepL k0 n0 0 0 h31 hpe hids
  obtain ⟨g1, s1, k1, n1⟩ := stepE k0 n0 1 0 (by decide)
  obtain ⟨g2, s2, k2, n2⟩ := stepE k1 n1 2 3 (by decide)
  obtain ⟨g3, s3, k3, n3⟩ := stepL k2 n2 3 0 h31 hpe hids
  obtain ⟨g4, s4, k4, n4⟩ := stepE k3 n3 4 15 (by decide)
  obtain ⟨g8, s8, k8, n8⟩ := stepL k4 n4 8 255 h31 hpe hids
  obtain ⟨g10, s10, k10, n10⟩ := stepE k8 n8 10 767 (by decide)
  obtain ⟨g11, s11, k11, n11⟩ := stepE k10 n10 11 2047 (by decide)
  obtain ⟨g13, s13, k13, n13⟩ := stepL k11 n11 13 4351 h3 (peq_i _) rfl
  obtain ⟨g24, s24, k24, n24⟩ := stepL k13 n13 24 16777215 h31 hpe hids
  obtain ⟨g26, s26, k26, n26⟩ := stepE k24 n24 26 50331647 (by decide)
  obtain ⟨g27, s27, k27, n27⟩ := stepE k26 n26 27 134217727 (by decide)
  obtain ⟨g32, s32, k32, n32⟩ := stepL k27 n27 32 4294967295 h31 hpe hids
  obtain ⟨g33, s33, k33, n33⟩ := stepE k32 n32 33 4294967295 (by decide)
  obtain ⟨g34, s34, k34, n34⟩ := stepE k33 n33 34 17179869183 (by decide)
  obtain ⟨g39, s39, k39, n39⟩ := stepL k34 n34 39 549755813887 h31 hpe hids
  obtain ⟨g40, s40, k40, n40⟩ := stepE k39 n39 40 549755813887 (by decide)
  obtain ⟨g41, s41, k41, n41⟩ := stepE k40 n40 41 2199023255551 (by decide)
  obtain ⟨g43, s43, k43, n43⟩ := stepL k41 n41 43 4947802324991 h3 (peq_i _) rfl
  obtain ⟨g53, s53, k53, n53⟩ := stepE k43 n43 53 9007199254740991 (by decide)
  rw [ev_seq, o3_11]
  rw [evOpsD_app]
  simp only [q3_11_0, bP_some, bLg_some, want_tt, want_tf, want_ft, want_ff, bWD_true, bWD_false, ranL_true, ranL_false, beq_self_eq_true, not_b, eq_b, eq_i, eq_2, pick_t, pick_f, pick_tu, pick_fu, decide_true, decide_false, p31, p3, fa31 _ _ 0 (by omega), fa31 _ _ 1 (by omega), Bool.not_true, Bool.not_false, s0, s1, s2, s3, s4, s8, s10, s11, s13, s24, s26, s27, s32, s33, s34, s39, s40, s41, s43, s53, m0, m11, m12, c6, c5d, c7, c8, c5f, c9, c5t, c10, c5b, c11, c5l, c12, hfe, hle, Nat.reduceEqDiff]
  rw [evOpsD_app]
  simp only [q3_11_1, bP_some, bLg_some, want_tt, want_tf, want_ft, want_ff, bWD_true, bWD_false, ranL_true, ranL_false, beq_self_eq_true, not_b, eq_b, eq_i, eq_2, pick_t, pick_f, pick_tu, pick_fu, decide_true, decide_false, p31, p3, fa31 _ _ 0 (by omega), fa31 _ _ 1 (by omega), Bool.not_true, Bool.not_false, s0, s1, s2, s3, s4, s8, s10, s11, s13, s24, s26, s27, s32, s33, s34, s39, s40, s41, s43, s53, m0, m11, m12, c6, c5d, c7, c8, c5f, c9, c5t, c10, c5b, c11, c5l, c12, hfe, hle, Nat.reduceEqDiff]
  rw [evOpsD_app]
  simp only [q3_11_2, bP_some, bLg_some, want_tt, want_tf, want_ft, want_ff, bWD_true, bWD_false, ranL_true, ranL_false, beq_self_eq_true, not_b, eq_b, eq_i, eq_2, pick_t, pick_f, pick_tu, pick_fu, decide_true, decide_false, p31, p3, fa31 _ _ 0 (by omega), fa31 _ _ 1 (by omega), Bool.not_true, Bool.not_false, s0, s1, s2, s3, s4, s8, s10, s11, s13, s24, s26, s27, s32, s33, s34, s39, s40, s41, s43, s53, m0, m11, m12, c6, c5d, c7, c8, c5f, c9, c5t, c10, c5b, c11, c5l, c12, hfe, hle, Nat.reduceEqDiff]
  rw [evOpsD_app]
  simp only [q3_11_3, bP_some, bLg_some, want_tt, want_tf, want_ft, want_ff, bWD_true, bWD_false, ranL_true, ranL_false, beq_self_eq_true, not_b, eq_b, eq_i, eq_2, pick_t, pick_f, pick_tu, pick_fu, decide_true, decide_false, p31, p3, fa31 _ _ 0 (by omega), fa31 _ _ 1 (by omega), Bool.not_true, Bool.not_false, s0, s1, s2, s3, s4, s8, s10, s11, s13, s24, s26, s27, s32, s33, s34, s39, s40, s41, s43, s53, m0, m11, m12, c6, c5d, c7, c8, c5f, c9, c5t, c10, c5b, c11, c5l, c12, hfe, hle, Nat.reduceEqDiff]
  rw [evOpsD_app]
  simp only [q3_11_4, bP_some, bLg_some, want_tt, want_tf, want_ft, want_ff, bWD_true, bWD_false, ranL_true, ranL_false, beq_self_eq_true, not_b, eq_b, eq_i, eq_2, pick_t, pick_f, pick_tu, pick_fu, decide_true, decide_false, p31, p3, fa31 _ _ 0 (by omega), fa31 _ _ 1 (by omega), Bool.not_true, Bool.not_false, s0, s1, s2, s3, s4, s8, s10, s11, s13, s24, s26, s27, s32, s33, s34, s39, s40, s41, s43, s53, m0, m11, m12, c6, c5d, c7, c8, c5f, c9, c5t, c10, c5b, c11, c5l, c12, hfe, hle, Nat.reduceEqDiff]
  rw [evOpsD_app]
  simp only [q3_11_5, bP_some, bLg_some, want_tt, want_tf, want_ft, want_ff, bWD_true, bWD_false, ranL_true, ranL_false, beq_self_eq_true, not_b, eq_b, eq_i, eq_2, pick_t, pick_f, pick_tu, pick_fu, decide_true, decide_false, p31, p3, fa31 _ _ 0 (by omega), fa31 _ _ 1 (by omega), Bool.not_true, Bool.not_false, s0, s1, s2, s3, s4, s8, s10, s11, s13, s24, s26, s27, s32, s33, s34, s39, s40, s41, s43, s53, m0, m11, m12, c6, c5d, c7, c8, c5f, c9, c5t, c10, c5b, c11, c5l, c12, hfe, hle, Nat.reduceEqDiff]
  rw [evOpsD_app]
  simp only [q3_11_6, bP_some, bLg_some, want_tt, want_tf, want_ft, want_ff, bWD_true, bWD_false, ranL_true, ranL_false, beq_self_eq_true, not_b, eq_b, eq_i, eq_2, pick_t, pick_f, pick_tu, pick_fu, decide_true, decide_false, p31, p3, fa31 _ _ 0 (by omega), fa31 _ _ 1 (by omega), Bool.not_true, Bool.not_false, s0, s1, s2, s3, s4, s8, s10, s11, s13, s24, s26, s27, s32, s33, s34, s39, s40, s41, s43, s53, m0, m11, m12, c6, c5d, c7, c8, c5f, c9, c5t, c10, c5b, c11, c5l, c12, hfe, hle, Nat.reduceEqDiff]
  rw [evOpsD_app]
  simp only [q3_11_7, bP_some, bLg_some, want_tt, want_tf, want_ft, want_ff, bWD_true, bWD_false, ranL_true, ranL_false, beq_self_eq_true, not_b, eq_b, eq_i, eq_2, pick_t, pick_f, pick_tu, pick_fu, decide_true, decide_false, p31, p3, fa31 _ _ 0 (by omega), fa31 _ _ 1 (by omega), Bool.not_true, Bool.not_false, s0, s1, s2, s3, s4, s8, s10, s11, s13, s24, s26, s27, s32, s33, s34, s39, s40, s41, s43, s53, m0, m11, m12, c6, c5d, c7, c8, c5f, c9, c5t, c10, c5b, c11, c5l, c12, hfe, hle, Nat.reduceEqDiff]
  rw [evOpsD_app]
  simp only [q3_11_8, bP_some, bLg_some, want_tt, want_tf, want_ft, want_ff, bWD_true, bWD_false, ranL_true, ranL_false, beq_self_eq_true, not_b, eq_b, eq_i, eq_2, pick_t, pick_f, pick_tu, pick_fu, decide_true, decide_false, p31, p3, fa31 _ _ 0 (by omega), fa31 _ _ 1 (by omega), Bool.not_true, Bool.not_false, s0, s1, s2, s3, s4, s8, s10, s11, s13, s24, s26, s27, s32, s33, s34, s39, s40, s41, s43, s53, m0, m11, m12, c6, c5d, c7, c8, c5f, c9, c5t, c10, c5b, c11, c5l, c12, hfe, hle, Nat.reduceEqDiff]
  rw [evOpsD_app]
  simp only [q3_11_9, bP_some, bLg_some, want_tt, want_tf, want_ft, want_ff, bWD_true, bWD_false, ranL_true, ranL_false, beq_self_eq_true, not_b, eq_b, eq_i, eq_2, pick_t, pick_f, pick_tu, pick_fu, decide_true, decide_false, p31, p3, fa31 _ _ 0 (by omega), fa31 _ _ 1 (by omega), Bool.not_true, Bool.not_false, s0, s1, s2, s3, s4, s8, s10, s11, s13, s24, s26, s27, s32, s33, s34, s39, s40, s41, s43, s53, m0, m11, m12, c6, c5d, c7, c8, c5f, c9, c5t, c10, c5b, c11, c5l, c12, hfe, hle, Nat.reduceEqDiff]
  rw [evOpsD_app]
  simp only [q3_11_10, bP_some, bLg_some, want_tt, want_tf, want_ft, want_ff, bWD_true, bWD_false, ranL_true, ranL_false, beq_self_eq_true, not_b, eq_b, eq_i, eq_2, pick_t, pick_f, pick_tu, pick_fu, decide_true, decide_false, p31, p3, fa31 _ _ 0 (by omega), fa31 _ _ 1 (by omega), Bool.not_true, Bool.not_false, s0, s1, s2, s3, s4, s8, s10, s11, s13, s24, s26, s27, s32, s33, s34, s39, s40, s41, s43, s53, m0, m11, m12, c6, c5d, c7, c8, c5f, c9, c5t, c10, c5b, c11, c5l, c12, hfe, hle, Nat.reduceEqDiff]
  rw [evOpsD_one]
  simp only [q3_11_11, bP_some, bLg_some, want_tt, want_tf, want_ft, want_ff, bWD_true, bWD_false, ranL_true, ranL_false, beq_self_eq_true, not_b, eq_b, eq_i, eq_2, pick_t, pick_f, pick_tu, pick_fu, decide_true, decide_false, p31, p3, fa31 _ _ 0 (by omega), fa31 _ _ 1 (by omega), Bool.not_true, Bool.not_false, s0, s1, s2, s3, s4, s8, s10, s11, s13, s24, s26, s27, s32, s33, s34, s39, s40, s41, s43, s53, m0, m11, m12, c6, c5d, c7, c8, c5f, c9, c5t, c10, c5b, c11, c5l, c12, hfe, hle, Nat.reduceEqDiff]
  rw [kept4, seqK_normal, ev_ret]
theorem last_f {hp : Hp} {id a m : Nat} {r : List PV} (hv : GB 180 (i 9 :: i m :: r)) (hk : hp.get id = some ⟨i 9 :: i m :: r, 7, false, 0⟩) (ha : a < 5) (hfe : fexp (i 9 :: i m :: r) a = decide (m = a)) (hle : lexp (i 9 :: i m :: r) = false) (n : Nat) (K : Ex → St → Option R) :
    evC tys e3 (.seq r3_11 .ret) (callF tys fnsO orc (run tys fnsO orc n)) (run tys fnsO orc n) ⟨[(6, .ptr id 0), (7, i a), (8, bo (texp (i 9 :: i m :: r) a)), (11, bo false)], hp⟩ K = K .ret ⟨[(4, bo true)], hp⟩ := by
  have hg := hv.1
  have hpe : peq 1000 (.agg (i 9 :: i m :: r)) (.agg (i 9 :: i m :: r)) = true := by
    show peq (999 + 1) _ _ = true
    unfold peq
    have h999 : 180 ≤ 999 := by omega
    exact peqL_le h999 hv.2
  have hids := ids_cells hg.cells hp.next
  obtain ⟨tf, hf⟩ : ∃ t, tFuns[a]? = some t := ⟨_, List.getElem?_eq_getElem ha⟩
  obtain ⟨tt, ht⟩ : ∃ t, tTots[a]? = some t := ⟨_, List.getElem?_eq_getElem ha⟩
  have mf : tys13[a + 1]? = some tf ∧ mexp (i 9 :: i m :: r) (a + 1) = fexp (i 9 :: i m :: r) a := by
    match a, ha with
    | 0, _ => exact ⟨hf, rfl⟩
    | 1, _ => exact ⟨hf, rfl⟩
    | 2, _ => exact ⟨hf, rfl⟩
    | 3, _ => exact ⟨hf, rfl⟩
    | 4, _ => exact ⟨hf, rfl⟩
  have mt : tys13[a + 6]? = some tt ∧ mexp (i 9 :: i m :: r) (a + 6) = texp (i 9 :: i m :: r) a := by
    match a, ha with
    | 0, _ => exact ⟨ht, rfl⟩
    | 1, _ => exact ⟨ht, rfl⟩
    | 2, _ => exact ⟨ht, rfl⟩
    | 3, _ => exact ⟨ht, rfl⟩
    | 4, _ => exact ⟨ht, rfl⟩
  have oc := fun {f : Nat} (h0 : fnsO.get f = none) {l ds : List PV} {q : PV} (h1 : freezeL deepN hp l = some (ds, hp)) (h2 : orc f ds = some q) => asked (R := R) (O := orc) (rc := run tys fnsO orc n) (f := f) h0 h1 h2
  have c6 := oc (f := 6) rfl (fz0 hp) o6
  have c5d := oc (f := 5) rfl (fz_vt hg (t := tData) (by simp [tys13]) hp) (o5 hg (c := 0) rfl)
  have c7 := oc (f := 7) rfl (fzv1 hg hp) (o7 hg)
  have c8 := oc (f := 8) rfl (fz_i a hp) (o8 hf)
  have c5f := oc (f := 5) rfl (fz_vt hg (List.mem_of_getElem? mf.1) hp) (o5 hg mf.1)
  have c9 := oc (f := 9) rfl (fz_i a hp) (o9 ht)
  have c5t := oc (f := 5) rfl (fz_vt hg (List.mem_of_getElem? mt.1) hp) (o5 hg mt.1)
  have c10 := oc (f := 10) rfl (fz0 hp) o10
  have c5b := oc (f := 5) rfl (fz_vt hg (t := tBool) (by simp [tys13]) hp) (o5 hg (c := 11) rfl)
  have c11 := oc (f := 11) rfl (fz0 hp) o11
  have c5l := oc (f := 5) rfl (fz_vt hg (t := tList) (by simp [tys13]) hp) (o5 hg (c := 12) rfl)
  have c12 := oc (f := 12) rfl (fz0 hp) o12
  rw [mf.2] at c5f
  rw [mt.2] at c5t
  have m0 : mexp (i 9 :: i m :: r) 0 = !hval (i 9 :: i m :: r) := rfl
  have m11 : mexp (i 9 :: i m :: r) 11 = false := rfl
  have m12 : mexp (i 9 :: i m :: r) 12 = lexp (i 9 :: i m :: r) := rfl
  have h31 := loadAt31 hk hg.seven
  have p31 := load31 hk hg.seven
  obtain ⟨p3, h3⟩ := ld3 hk
  obtain ⟨p2, h2⟩ := ld2 hk
  have k0 := lok0 hp
  have n0 : en ⟨[], [], []⟩ = [] := rfl
  obtain ⟨g0, s0, k0, n0⟩ := stepL k0 n0 0 0 h31 hpe hids
  obtain ⟨g1, s1, k1, n1⟩ := stepE k0 n0 1 0 (by decide)
  obtain ⟨g2, s2, k2, n2⟩ := stepE k1 n1 2 3 (by decide)
  obtain ⟨g3, s3, k3, n3⟩ := stepL k2 n2 3 0 h31 hpe hids
  obtain ⟨g4, s4, k4, n4⟩ := stepE k3 n3 4 15 (by decide)
  obtain ⟨g8, s8, k8, n8⟩ := stepL k4 n4 8 255 h31 hpe hids
  obtain ⟨g10, s10, k10, n10⟩ := stepE k8 n8 10 767 (by decide)
  obtain ⟨g11, s11, k11, n11⟩ := stepE k10 n10 11 2047 (by decide)
  obtain ⟨g13, s13, k13, n13⟩ := stepL k11 n11 13 4351 h3 (peq_i _) rfl
  obtain ⟨g17, s17, k17, n17⟩ := stepL k13 n13 17 131071 h2 (peq_i _) rfl
  obtain ⟨g24, s24, k24, n24⟩ := stepL k17 n17 24 16777215 h31 hpe hids
  obtain ⟨g26, s26, k26, n26⟩ := stepE k24 n24 26 50331647 (by decide)
  obtain ⟨g27, s27, k27, n27⟩ := stepE k26 n26 27 134217727 (by decide)
  obtain ⟨g32, s32, k32, n32⟩ := stepL k27 n27 32 4294967295 h31 hpe hids
  obtain ⟨g33, s33, k33, n33⟩ := stepE k32 n32 33 4294967295 (by decide)
  obtain ⟨g34, s34, k34, n34⟩ := stepE k33 n33 34 17179869183 (by decide)
  obtain ⟨g39, s39, k39, n39⟩ := stepL k34 n34 39 549755813887 h31 hpe hids
  obtain ⟨g40, s40, k40, n40⟩ := stepE k39 n39 40 549755813887 (by decide)
  obtain ⟨g41, s41, k41, n41⟩ := stepE k40 n40 41 2199023255551 (by decide)
  obtain ⟨g43, s43, k43, n43⟩ := stepL k41 n41 43 4947802324991 h3 (peq_i _) rfl
  obtain ⟨g47, s47, k47, n47⟩ := stepL k43 n43 47 140737488355327 h3 (peq_i _) rfl
  obtain ⟨g53, s53, k53, n53⟩ := stepE k47 n47 53 9007199254740991 (by decide)
  rw [ev_seq, o3_11]
  rw [evOpsD_app]
  simp only [q3_11_0, bP_some, bLg_some, want_tt, want_tf, want_ft, want_ff, bWD_true, bWD_false, ranL_true, ranL_false, beq_self_eq_true, not_b, eq_b, eq_i, eq_2, pick_t, pick_f, pick_tu, pick_fu, decide_true, decide_false, p31, p3, fa31 _ _ 0 (by omega), fa31 _ _ 1 (by omega), Bool.not_true, Bool.not_false, s0, s1, s2, s3, s4, s8, s10, s11, s13, s17, s24, s26, s27, s32, s33, s34, s39, s40, s41, s43, s47, s53, m0, m11, m12, c6, c5d, c7, c8, c5f, c9, c5t, c10, c5b, c11, c5l, c12, p2, hfe, hle, Nat.reduceEqDiff]
  rw [evOpsD_app]
  simp only [q3_11_1, bP_some, bLg_some, want_tt, want_tf, want_ft, want_ff, bWD_true, bWD_false, ranL_true, ranL_false, beq_self_eq_true, not_b, eq_b, eq_i, eq_2, pick_t, pick_f, pick_tu, pick_fu, decide_true, decide_false, p31, p3, fa31 _ _ 0 (by omega), fa31 _ _ 1 (by omega), Bool.not_true, Bool.not_false, s0, s1, s2, s3, s4, s8, s10, s11, s13, s17, s24, s26, s27, s32, s33, s34, s39, s40, s41, s43, s47, s53, m0, m11, m12, c6, c5d, c7, c8, c5f, c9, c5t, c10, c5b, c11, c5l, c12, p2, hfe, hle, Nat.reduceEqDiff]
  rw [evOpsD_app]
  simp only [q3_11_2, bP_some, bLg_some, want_tt, want_tf, want_ft, want_ff, bWD_true, bWD_false, ranL_true, ranL_false, beq_self_eq_true, not_b, eq_b, eq_i, eq_2, pick_t, pick_f, pick_tu, pick_fu, decide_true, decide_false, p31, p3, fa31 _ _ 0 (by omega), fa31 _ _ 1 (by omega), Bool.not_true, Bool.not_false, s0, s1, s2, s3, s4, s8, s10, s11, s13, s17, s24, s26, s27, s32, s33, s34, s39, s40, s41, s43, s47, s53, m0, m11, m12, c6, c5d, c7, c8, c5f, c9, c5t, c10, c5b, c11, c5l, c12, p2, hfe, hle, Nat.reduceEqDiff]
  rw [evOpsD_app]
  simp only [q3_11_3, bP_some, bLg_some, want_tt, want_tf, want_ft, want_ff, bWD_true, bWD_false, ranL_true, ranL_false, beq_self_eq_true, not_b, eq_b, eq_i, eq_2, pick_t, pick_f, pick_tu, pick_fu, decide_true, decide_false, p31, p3, fa31 _ _ 0 (by omega), fa31 _ _ 1 (by omega), Bool.not_true, Bool.not_false, s0, s1, s2, s3, s4, s8, s10, s11, s13, s17, s24, s26, s27, s32, s33, s34, s39, s40, s41, s43, s47, s53, m0, m11, m12, c6, c5d, c7, c8, c5f, c9, c5t, c10, c5b, c11, c5l, c12, p2, hfe, hle, Nat.reduceEqDiff]
  rw [evOpsD_app]
  simp only [q3_11_4, bP_some, bLg_some, want_tt, want_tf, want_ft, want_ff, bWD_true, bWD_false, ranL_true, ranL_false, beq_self_eq_true, not_b, eq_b, eq_i, eq_2, pick_t, pick_f, pick_tu, pick_fu, decide_true, decide_false, p31, p3, fa31 _ _ 0 (by omega), fa31 _ _ 1 (by omega), Bool.not_true, Bool.not_false, s0, s1, s2, s3, s4, s8, s10, s11, s13, s17, s24, s26, s27, s32, s33, s34, s39, s40, s41, s43, s47, s53, m0, m11, m12, c6, c5d, c7, c8, c5f, c9, c5t, c10, c5b, c11, c5l, c12, p2, hfe, hle, Nat.reduceEqDiff]
  rw [evOpsD_app]
  simp only [q3_11_5, bP_some, bLg_some, want_tt, want_tf, want_ft, want_ff, bWD_true, bWD_false, ranL_true, ranL_false, beq_self_eq_true, not_b, eq_b, eq_i, eq_2, pick_t, pick_f, pick_tu, pick_fu, decide_true, decide_false, p31, p3, fa31 _ _ 0 (by omega), fa31 _ _ 1 (by omega), Bool.not_true, Bool.not_false, s0, s1, s2, s3, s4, s8, s10, s11, s13, s17, s24, s26, s27, s32, s33, s34, s39, s40, s41, s43, s47, s53, m0, m11, m12, c6, c5d, c7, c8, c5f, c9, c5t, c10, c5b, c11, c5l, c12, p2, hfe, hle, Nat.reduceEqDiff]
  rw [evOpsD_app]
  simp only [q3_11_6, bP_some, bLg_some, want_tt, want_tf, want_ft, want_ff, bWD_true, bWD_false, ranL_true, ranL_false, beq_self_eq_true, not_b, eq_b, eq_i, eq_2, pick_t, pick_f, pick_tu, pick_fu, decide_true, decide_false, p31, p3, fa31 _ _ 0 (by omega), fa31 _ _ 1 (by omega), Bool.not_true, Bool.not_false, s0, s1, s2, s3, s4, s8, s10, s11, s13, s17, s24, s26, s27, s32, s33, s34, s39, s40, s41, s43, s47, s53, m0, m11, m12, c6, c5d, c7, c8, c5f, c9, c5t, c10, c5b, c11, c5l, c12, p2, hfe, hle, Nat.reduceEqDiff]
  rw [evOpsD_app]
  simp only [q3_11_7, bP_some, bLg_some, want_tt, want_tf, want_ft, want_ff, bWD_true, bWD_false, ranL_true, ranL_false, beq_self_eq_true, not_b, eq_b, eq_i, eq_2, pick_t, pick_f, pick_tu, pick_fu, decide_true, decide_false, p31, p3, fa31 _ _ 0 (by omega), fa31 _ _ 1 (by omega), Bool.not_true, Bool.not_false, s0, s1, s2, s3, s4, s8, s10, s11, s13, s17, s24, s26, s27, s32, s33, s34, s39, s40, s41, s43, s47, s53, m0, m11, m12, c6, c5d, c7, c8, c5f, c9, c5t, c10, c5b, c11, c5l, c12, p2, hfe, hle, Nat.reduceEqDiff]
  rw [evOpsD_app]
  simp only [q3_11_8, bP_some, bLg_some, want_tt, want_tf, want_ft, want_ff, bWD_true, bWD_false, ranL_true, ranL_false, beq_self_eq_true, not_b, eq_b, eq_i, eq_2, pick_t, pick_f, pick_tu, pick_fu, decide_true, decide_false, p31, p3, fa31 _ _ 0 (by omega), fa31 _ _ 1 (by omega), Bool.not_true, Bool.not_false, s0, s1, s2, s3, s4, s8, s10, s11, s13, s17, s24, s26, s27, s32, s33, s34, s39, s40, s41, s43, s47, s53, m0, m11, m12, c6, c5d, c7, c8, c5f, c9, c5t, c10, c5b, c11, c5l, c12, p2, hfe, hle, Nat.reduceEqDiff]
  rw [evOpsD_app]
  simp only [q3_11_9, bP_some, bLg_some, want_tt, want_tf, want_ft, want_ff, bWD_true, bWD_false, ranL_true, ranL_false, beq_self_eq_true, not_b, eq_b, eq_i, eq_2, pick_t, pick_f, pick_tu, pick_fu, decide_true, decide_false, p31, p3, fa31 _ _ 0 (by omega), fa31 _ _ 1 (by omega), Bool.not_true, Bool.not_false, s0, s1, s2, s3, s4, s8, s10, s11, s13, s17, s24, s26, s27, s32, s33, s34, s39, s40, s41, s43, s47, s53, m0, m11, m12, c6, c5d, c7, c8, c5f, c9, c5t, c10, c5b, c11, c5l, c12, p2, hfe, hle, Nat.reduceEqDiff]
  rw [evOpsD_app]
  simp only [q3_11_10, bP_some, bLg_some, want_tt, want_tf, want_ft, want_ff, bWD_true, bWD_false, ranL_true, ranL_false, beq_self_eq_true, not_b, eq_b, eq_i, eq_2, pick_t, pick_f, pick_tu, pick_fu, decide_true, decide_false, p31, p3, fa31 _ _ 0 (by omega), fa31 _ _ 1 (by omega), Bool.not_true, Bool.not_false, s0, s1, s2, s3, s4, s8, s10, s11, s13, s17, s24, s26, s27, s32, s33, s34, s39, s40, s41, s43, s47, s53, m0, m11, m12, c6, c5d, c7, c8, c5f, c9, c5t, c10, c5b, c11, c5l, c12, p2, hfe, hle, Nat.reduceEqDiff]
  rw [evOpsD_one]
  simp only [q3_11_11, bP_some, bLg_some, want_tt, want_tf, want_ft, want_ff, bWD_true, bWD_false, ranL_true, ranL_false, beq_self_eq_true, not_b, eq_b, eq_i, eq_2, pick_t, pick_f, pick_tu, pick_fu, decide_true, decide_false, p31, p3, fa31 _ _ 0 (by omega), fa31 _ _ 1 (by omega), Bool.not_true, Bool.not_false, s0, s1, s2, s3, s4, s8, s10, s11, s13, s17, s24, s26, s27, s32, s33, s34, s39, s40, s41, s43, s47, s53, m0, m11, m12, c6, c5d, c7, c8, c5f, c9, c5t, c10, c5b, c11, c5l, c12, p2, hfe, hle, Nat.reduceEqDiff]
  rw [kept4, seqK_normal, ev_ret]
end
end Go.Ev.D

/- The law's function, as a call. -/
namespace Go.Ev
/-- a run that asks an oracle which tells the truth -/
theorem known_orc [Env] {P : Program} {T : Types} (hT : TOk P T) (hm : P.follows .mixedOrders = true) {FT : Fns} (hF : FTOk P FT) {O : Orc} (hO : OrcOk P O) {f : Nat} {fi : FI} (hf : FIOk P f fi) {n : Nat} {ds : List PV} {q : PV}
    (h : (callD (R := PV) T fi (run T FT O n) (fun p _ => some p) (some (ds, ⟨[], 0, []⟩))) = some q) : Known P f ds q := by
  have hr := run_sound (R := PV) (.un : PV) hT (drawSound (R := PV) .un hT hm) hF hO n
  have hu := run_uni (T := T) (R := PV) FT O n
  unfold callD at h
  simp only [] at h
  rcases bodyF_uni (T := T) hu fi ds ⟨[], 0, []⟩ with g | ⟨x, h', g⟩
  · have g' : ∀ k, bodyF T fi (run T FT O n) ds ⟨[], 0, []⟩ k = none := g
    rw [g'] at h; cases h
  · have g' : ∀ k, bodyF T fi (run T FT O n) ds ⟨[], 0, []⟩ k = k x h' := g
    rw [g'] at h
    unfold dataK at h
    cases hq : freeze deepN h' x with
    | none => simp [hq] at h
    | some qh =>
      simp only [hq] at h
      cases h
      obtain ⟨h1, h2⟩ := bodyF_sound' (.un : PV) hT hu hr hf g'
      refine ⟨h1, fun w F args hF1 hv => ?_⟩
      refine Calls.mono (h2 w F noMap args (HS.empty 0 hF1) hv) ?_
      rintro e w' ⟨v, F', M', rfl, k1, k2, k3⟩
      obtain ⟨F2, m1, m2, m3⟩ := freeze_sound deepN h' x qh.1 qh.2 hq F' v k2 k1
      have hx : Ext w w' F F2 noMap M' := k3.trans m2
      have hx' : Ext w w' F F2 noMap noMap := ⟨hx.os, hx.tape, hx.output, hx.size, hx.keep, hx.cell, fun _ _ h => h, hx.mF, fun _ _ h => .inl h, hx.newF⟩
      exact ⟨v, F2, rfl, m3, m1.fw, hx'⟩
namespace D
open Go.Proofs
theorem want_u (b : Bool) : wantOf b (some .un) = some false := by cases b <;> rfl
theorem lss_i (hp : Hp) (a b : Nat) : primBin tys hp .lss 3 (some (i a)) (some (i b)) = some (.v (.bool (decide (a < b))), hp) := by
  rw [primBin_eq, bin_int, int_lss, ret1_some', ileb_nat]
  congr 3
  by_cases h : a < b <;> simp [h] <;> omega
theorem add_i (hp : Hp) (a : Nat) (h : a ≤ 1000) : primBin tys hp .add 3 (some (i a)) (some (i 1)) = some (i (a + 1), hp) := by
  rw [primBin_eq, bin_int, int_add64 a 1 (by omega), ret1_some']
theorem ix28 (hp : Hp) {es : List (List PV)} {n : Nat} {e : List PV} (h : es[n]? = some e) (h9 : e.length = 9) : primIndexAddr tys hp 28 (some (slOf es)) (some (i n)) = some (.ep e 0, hp) := by
  cases es with
  | nil => simp at h
  | cons x r =>
    show ret1 hp (idxSl 9 (.sl (x :: r) false) n) = _
    simp only [idxSl, h, h9]
    rfl
theorem ld35ep (hp : Hp) {e : List PV} (h9 : e.length = 9) : primLoad tys hp 35 (some (.ep e 0)) = some (.agg e, hp) := by
  obtain ⟨x0, x1, x2, x3, x4, x5, x6, x7, x8, rfl⟩ := lst9 h9
  rfl
theorem ld4 {hp : Hp} {b : Nat} {x : PV} {v : Bool} {r : List PV} {fz : Nat} (h : hp.get b = some ⟨x :: bo v :: r, 9, false, fz⟩) : primLoad tys hp 4 (some (.ptr b 1)) = some (bo v, hp) :=
  load_cell (i := y4) rfl rfl h rfl
theorem ld28 {hp : Hp} {b : Nat} {x0 x1 x2 x3 x4 x5 x6 : PV} {fz : Nat} (h : hp.get b = some ⟨[x0, x1, x2, x3, x4, x5, x6], 7, false, fz⟩) : primLoad tys hp 28 (some (.ptr b 5)) = some (x5, hp) :=
  load_cell (i := y28) rfl rfl h rfl
theorem ld9 {hp : Hp} {b : Nat} {x0 x1 x2 : PV} {r : List PV} {fz : Nat} (h : hp.get b = some ⟨x0 :: x1 :: x2 :: r, 7, false, fz⟩) : primLoad tys hp 9 (some (.ptr b 2)) = some (x2, hp) :=
  load_cell (i := y9) rfl rfl h rfl
theorem len28 (hp : Hp) (es : List (List PV)) : primLen tys hp 28 (some (slOf es)) = some (i es.length, hp) := by
  cases es <;> rfl
theorem eqtf (hp : Hp) : ∀ t ∈ atoms, primBin tys hp .eql 9 (some t) (some (sb [116,114,117,101])) = some (bo false, hp) ∧ primBin tys hp .eql 9 (some t) (some (sb [102,97,108,115,101])) = some (bo false, hp) := by
  intro t ht
  simp only [atoms, List.mem_cons, List.not_mem_nil, or_false] at ht
  rcases ht with rfl | rfl | rfl | rfl <;> exact ⟨rfl, rfl⟩
section
variable [E : Env]
variable {R : Type}
/-- what a run leaves alone -/
def Keeps (hp hp' : Hp) : Prop := hp.next ≤ hp'.next ∧ ∀ j, j < hp.next → hp'.get j = hp.get j
theorem calm_cons (e : List PV) (es : List (List PV)) : calm (e :: es) = (calm [e] && calm es) := by
  simp only [calm, List.all_cons, List.all_nil, Bool.and_true]
theorem loop3 {id a : Nat} : ∀ (rest done : List (List PV)) (tot : Bool) (n : Nat) (hp : Hp), rest.length ≤ n → (∀ e ∈ done ++ rest, e.length = 9 ∧ ∃ x f z, e = x :: bo f :: z) → (done ++ rest).length ≤ 100 →
    ∃ hp', Keeps hp hp' ∧ ∀ k : Ex → St → Option R, evC tys e3 l3_0 (callF tys fnsO orc (run tys fnsO orc n)) (run tys fnsO orc n) ⟨[(6, .ptr id 0), (7, i a), (8, bo tot), (35, slOf (done ++ rest)), (36, i (done ++ rest).length), (37, i done.length)], hp⟩ k =
      k (.exit 0) ⟨[(6, .ptr id 0), (7, i a), (8, bo (tot && calm rest)), (35, slOf (done ++ rest)), (36, i (done ++ rest).length), (37, i (done ++ rest).length), (38, bo false)], hp'⟩
  | [], done, tot, n, hp, hn, he, hl => by
    refine ⟨hp, ⟨Nat.le_refl _, fun _ _ => rfl⟩, fun k => ?_⟩
    rw [l3_0_eq]
    simp only [List.append_nil] at *
    simp only [ev_loop, ev_seq, ev_cond, r3_6a, lss_i, Nat.lt_irrefl, decide_false, bP_some, seqK_normal, opd_tmp, alget, Nat.reduceEqDiff, reduceIte, bB_false, ev_exit, seqK_exit, calm, List.all_nil, Bool.and_true]
  | e :: rest, done, tot, n, hp, hn, he, hl => by
    obtain ⟨n', rfl, hn'⟩ := succ_of (N := rest.length) (n := n) (by simpa using hn)
    have hin : (done ++ e :: rest)[done.length]? = some e := by rw [List.getElem?_append_right (Nat.le_refl _), Nat.sub_self]; rfl
    obtain ⟨h9, x, f, z, hxe⟩ := he e (by simp)
    have kb := get_new_next hp ⟨nl :: bo false :: zero, 9, false, 0⟩
    have q1 := store35 kb rfl h9
    generalize hC : (hp.new ⟨nl :: bo false :: zero, 9, false, 0⟩).put hp.next ⟨e, 9, false, 0⟩ = hpC at q1
    have nC : hpC.next = hp.next + 1 := by rw [← hC]; rfl
    have kC : hpC.get hp.next = some ⟨x :: bo f :: z, 9, false, 0⟩ := by rw [← hC, ← hxe]; exact put_at _ kb
    have gC : ∀ j, j < hp.next → hpC.get j = hp.get j := fun j hj => by rw [← hC, put_ne _ _ (by omega)]; exact new_get _ _ hj
    have hass : done ++ e :: rest = (done ++ [e]) ++ rest := by simp
    obtain ⟨hp', kp, c'⟩ := loop3 (id := id) (a := a) rest (done ++ [e]) (tot && !f) n' hpC hn' (by rw [← hass]; exact he) (by rw [← hass]; exact hl)
    have hcalm : (tot && calm (e :: rest)) = ((tot && !f) && calm rest) := by
      rw [calm_cons, hxe]
      simp only [calm, List.all_cons, List.all_nil, Bool.and_true, Bool.and_assoc]
    have hlt : done.length < (done ++ e :: rest).length := by simp
    have hl1 : done.length ≤ 1000 := by simp at hl; omega
    refine ⟨hp', ⟨by have := kp.1; omega, fun j hj => (kp.2 j (by omega)).trans (gC j hj)⟩, fun k => ?_⟩
    have c2 := c' k
    rw [← hass, show (done ++ [e]).length = done.length + 1 by simp] at c2
    rw [l3_0_eq]
    cases tot with
    | true =>
      simp only [ev_loop, ev_seq, ev_cond, ev_block, ev_skip, r3_6a, lss_i, hlt, decide_true, bP_some, seqK_normal, blockK_normal, opd_tmp, alget, Nat.reduceEqDiff, reduceIte, bB_true, r3_7a, ix28 _ hin h9, ld35ep _ h9, alloc35, q1, r3_8a, want_tt, bW_true, fa35_1, ld4 kC, not_b, pick_t, r3_9a, add_i _ _ hl1]
      rw [← l3_0_eq, run_succ, hcalm]
      simp only [Bool.true_and] at c2 ⊢
      exact c2
    | false =>
      simp only [ev_loop, ev_seq, ev_cond, ev_block, ev_skip, r3_6a, lss_i, hlt, decide_true, bP_some, seqK_normal, blockK_normal, opd_tmp, alget, Nat.reduceEqDiff, reduceIte, bB_true, r3_7a, ix28 _ hin h9, ld35ep _ h9, alloc35, q1, r3_8a, want_tf, bW_false, pick_f, r3_9a, add_i _ _ hl1]
      rw [← l3_0_eq, run_succ, hcalm]
      simp only [Bool.false_and] at c2 ⊢
      exact c2
/-- from the number on -/
noncomputable def rest3 : Code := .seq r3_4 (.seq (.seq r3_5 (.block 0 l3_0)) (.seq r3_10 (.seq r3_11 .ret)))
theorem rest_o {kd : Nat} {x1 x2 x3 x4 l : PV} (hv : GB 180 [i kd, x1, x2, x3, x4, nl, l]) {hp : Hp} {id a : Nat} (hid : id < hp.next) (hk : hp.get id = some ⟨[i kd, x1, x2, x3, x4, nl, l], 7, false, 0⟩) (ha : a < 5) (h9 : (kd = 9) = False) (h3 : kd = 3 → x2 ∈ atoms)
    (hfe : fexp [i kd, x1, x2, x3, x4, nl, l] a = false) (hte : texp [i kd, x1, x2, x3, x4, nl, l] a = false) (n : Nat) (K : Ex → St → Option R)
    (hlast : evC tys e3 (.seq r3_11 .ret) (callF tys fnsO orc (run tys fnsO orc n)) (run tys fnsO orc n) ⟨[(6, .ptr id 0), (7, i a), (8, bo false), (11, bo false)], hp⟩ K = K .ret ⟨[(4, bo true)], hp⟩) :
    evC tys e3 rest3 (callF tys fnsO orc (run tys fnsO orc n)) (run tys fnsO orc n) ⟨[(6, .ptr id 0), (7, i a)], hp⟩ K = K .ret ⟨[(4, bo true)], hp⟩ := by
  obtain ⟨p3, _⟩ := ld3 hk
  have p28 := ld28 hk
  have pl : primLen tys hp 28 (some nl) = some (i 0, hp) := rfl
  have p9 := ld9 hk
  simp only [ev_seq] at hlast
  unfold rest3
  rw [l3_0_eq]
  by_cases hk3 : kd = 3
  · subst hk3
    obtain ⟨t1, t2⟩ := eqtf hp x2 (h3 rfl)
    simp only [ev_loop, ev_seq, ev_cond, ev_block, ev_skip, bP_some, seqK_normal, seqK_exit, blockK_normal, blockK_at, opd_tmp, alget, Nat.reduceEqDiff, reduceIte, bB_true, bB_false, ev_exit, r3_4a, fa31 _ _ 0 (by omega), fa31 _ _ 5 (by omega), fa31 _ _ 2 (by omega), p3, eq_i, decide_true, decide_false, want_tt, want_tf, want_ff, bW_true, bW_false, pick_t, pick_f, r3_5a, p28, pl, r3_6a, lss_i, Nat.lt_irrefl, r3_10a, p9, t1, t2, hlast]
  · simp only [ev_loop, ev_seq, ev_cond, ev_block, ev_skip, bP_some, seqK_normal, seqK_exit, blockK_normal, blockK_at, opd_tmp, alget, Nat.reduceEqDiff, reduceIte, bB_true, bB_false, ev_exit, r3_4a, fa31 _ _ 0 (by omega), fa31 _ _ 5 (by omega), fa31 _ _ 2 (by omega), p3, eq_i, h9, hk3, decide_true, decide_false, want_tt, want_tf, want_ft, want_ff, want_u, bW_true, bW_false, pick_t, pick_f, r3_5a, p28, pl, r3_6a, lss_i, Nat.lt_irrefl, r3_10a, hlast]
theorem rest_f {m : Nat} {ps : List Ent} {l : PV} (hps : ∀ e ∈ ents ps, e.length = 9 ∧ ∃ x f z, e = x :: bo f :: z) (hpl : (ents ps).length ≤ 2) (hv : GB 180 (vFun (i m) (ents ps) l)) {hp : Hp} {id a : Nat} (hid : id < hp.next) (hk : hp.get id = some ⟨vFun (i m) (ents ps) l, 7, false, 0⟩) (ha : a < 5) (n : Nat) (hn : 2 ≤ n) (K : Ex → St → Option R) :
    ∃ hp', evC tys e3 rest3 (callF tys fnsO orc (run tys fnsO orc n)) (run tys fnsO orc n) ⟨[(6, .ptr id 0), (7, i a)], hp⟩ K = K .ret ⟨[(4, bo true)], hp'⟩ := by
  obtain ⟨p3, _⟩ := ld3 hk
  obtain ⟨p2, _⟩ := ld2 hk
  have p28 := ld28 hk
  obtain ⟨hp', kp, c'⟩ := loop3 (R := R) (id := id) (a := a) (ents ps) [] (decide (m = a)) n hp (by omega) (by simpa using hps) (by simp; omega)
  simp only [List.nil_append, List.length_nil] at c'
  have hk' : hp'.get id = some ⟨vFun (i m) (ents ps) l, 7, false, 0⟩ := (kp.2 id hid).trans hk
  obtain ⟨p3', _⟩ := ld3 hk'
  have hte : texp (vFun (i m) (ents ps) l) a = (decide (m = a) && calm (ents ps)) := by
    have ct : calm (ents ps) = (match slOf (ents ps) with | .sl es _ => calm es | _ => true) := by
      cases ents ps <;> rfl
    have hb : Nat.beq m a = decide (m = a) := by
      by_cases h : m = a
      · subst h; simp
      · rw [decide_eq_false h, Bool.eq_false_iff]; intro e; exact h (Nat.eq_of_beq_eq_true e)
    unfold texp vFun fexp
    rw [ct, ← hb]
    cases h : ents ps <;> rfl
  have hfe : fexp (vFun (i m) (ents ps) l) a = decide (m = a) := by
    show Nat.beq m a = _
    by_cases h : m = a
    · subst h; simp
    · rw [decide_eq_false h, Bool.eq_false_iff]; intro e; exact h (Nat.eq_of_beq_eq_true e)
  have hlast := last_f (R := R) (r := [sb [], nl, nl, slOf (ents ps), l]) hv hk' ha hfe rfl n K
  have hte' : texp (i 9 :: i m :: [sb [], nl, nl, slOf (ents ps), l]) a = (decide (m = a) && calm (ents ps)) := hte
  rw [hte'] at hlast
  simp only [ev_seq] at hlast
  refine ⟨hp', ?_⟩
  unfold rest3
  simp only [ev_seq, ev_cond, ev_block, ev_skip, bP_some, seqK_normal, seqK_exit, blockK_normal, blockK_at, opd_tmp, alget, Nat.reduceEqDiff, reduceIte, bB_true, bB_false, r3_4a, fa31 _ _ 0 (by omega), fa31 _ _ 1 (by omega), fa31 _ _ 5 (by omega), p3, eq_i, decide_true, decide_false, want_tt, want_tf, want_ff, want_ft, want_u, bW_true, bW_false, p2, eq_2, pick_t, pick_f, r3_5a, p28, len28, c', r3_10a, p3', hlast]
theorem ents_form {ps : List Ent} (h : ∀ p ∈ ps, ∀ r, p.2 = some r → r.length = 7) : ∀ e ∈ ents ps, e.length = 9 ∧ ∃ x f z, e = x :: bo f :: z := by
  intro e he
  obtain ⟨p, hp, rfl⟩ := List.mem_map.1 he
  refine ⟨ent_len (h p hp), ?_⟩
  obtain ⟨xs, r⟩ := p
  cases r with
  | none => exact ⟨_, true, _, rfl⟩
  | some x => exact ⟨_, false, _, rfl⟩
theorem rest_all {v : List PV} (hv : GB 180 v) {hp : Hp} {id a : Nat} (hid : id < hp.next) (hk : hp.get id = some ⟨v, 7, false, 0⟩) (ha : a < 5) (n : Nat) (hn : 2 ≤ n) (K : Ex → St → Option R) :
    ∃ hp', evC tys e3 rest3 (callF tys fnsO orc (run tys fnsO orc n)) (run tys fnsO orc n) ⟨[(6, .ptr id 0), (7, i a)], hp⟩ K = K .ret ⟨[(4, bo true)], hp'⟩ := by
  have hg := hv.1
  cases hg with
  | int h1 h2 =>
    have e := fun r => texp_no (kd := 1) (by decide) r a
    refine ⟨hp, rest_o hv hid hk ha (by simp) (by omega) (e _).1 (e _).2 n K ?_⟩
    have := last_o (R := R) hv hk ha (by simp) (by simp) (e _).1 rfl n K
    rwa [(e _).2] at this
  | str h1 h2 =>
    have e := fun r => texp_no (kd := 2) (by decide) r a
    refine ⟨hp, rest_o hv hid hk ha (by simp) (by omega) (e _).1 (e _).2 n K ?_⟩
    have := last_o (R := R) hv hk ha (by simp) (by simp) (e _).1 rfl n K
    rwa [(e _).2] at this
  | atom h1 h2 =>
    have e := fun r => texp_no (kd := 3) (by decide) r a
    refine ⟨hp, rest_o hv hid hk ha (by simp) (fun _ => h1) (e _).1 (e _).2 n K ?_⟩
    have := last_o (R := R) hv hk ha (by simp) (by simp) (e _).1 rfl n K
    rwa [(e _).2] at this
  | pid h1 h2 =>
    have e := fun r => texp_no (kd := 4) (by decide) r a
    refine ⟨hp, rest_o hv hid hk ha (by simp) (by omega) (e _).1 (e _).2 n K ?_⟩
    have := last_o (R := R) hv hk ha (by simp) (by simp) (e _).1 rfl n K
    rwa [(e _).2] at this
  | nil h1 =>
    have e := fun r => texp_no (kd := 5) (by decide) r a
    refine ⟨hp, rest_o hv hid hk ha (by simp) (by omega) (e _).1 (e _).2 n K ?_⟩
    have := last_n (R := R) hv hk ha (e _).1 rfl n K
    rwa [(e _).2] at this
  | tup h1 h2 h3 =>
    have e := fun r => texp_no (kd := 6) (by decide) r a
    refine ⟨hp, rest_o hv hid hk ha (by simp) (by omega) (e _).1 (e _).2 n K ?_⟩
    have := last_o (R := R) hv hk ha (by simp) (by simp) (e _).1 rfl n K
    rwa [(e _).2] at this
  | cons h1 h2 h3 h4 =>
    have e := fun r => texp_no (kd := 7) (by decide) r a
    refine ⟨hp, rest_o hv hid hk ha (by simp) (by omega) (e _).1 (e _).2 n K ?_⟩
    have := last_o (R := R) hv hk ha (by simp) (by simp) (e _).1 rfl n K
    rwa [(e _).2] at this
  | map h1 h2 h3 h4 =>
    have e := fun r => texp_no (kd := 8) (by decide) r a
    refine ⟨hp, rest_o hv hid hk ha (by simp) (by omega) (e _).1 (e _).2 n K ?_⟩
    have := last_o (R := R) hv hk ha (by simp) (by simp) (e _).1 rfl n K
    rwa [(e _).2] at this
  | fn h1 h2 h3 h4 h5 h6 h7 => exact rest_f (ents_form fun p hp r hr => (h5 p hp r hr).seven) (by simpa [ents] using h2) hv hid hk ha n hn K
theorem wrap_u64 (z : Int) : ∃ m : Nat, IntKind.u64.wrap z = .ofNat m := by
  have : (0 : Int) ≤ IntKind.u64.wrap z := by
    unfold IntKind.wrap
    simp only [show IntKind.u64.signed = false from rfl, Bool.false_and, Bool.false_eq_true, if_false]
    exact Int.emod_nonneg _ (by decide)
  exact ⟨(IntKind.u64.wrap z).toNat, (Int.toNat_of_nonneg this).symm⟩
theorem conv_u (hp : Hp) (z : Int) : ∃ m : Nat, primConv tys hp 3 33 (some (num z)) = some (.v (.int .u64 (.ofNat m)), hp) := by
  obtain ⟨m, hm⟩ := wrap_u64 z
  refine ⟨m, ?_⟩
  rw [conv_int_eq (si := y3) (di := y33) rfl rfl rfl rfl]
  show some (PV.v (.int .u64 (IntKind.u64.wrap z)), hp) = _
  rw [hm]
theorem conv_i (hp : Hp) {m : Nat} (h : m < 5) : primConv tys hp 33 3 (some (.v (.int .u64 (.ofNat m)))) = some (i m, hp) := by
  rw [conv_int_eq (si := y33) (di := y3) rfl rfl rfl rfl]
  show some (PV.v (.int .i64 (wrapq .i64 (.ofNat m))), hp) = _
  rw [wrapq64 (by omega)]
/-- the first sixty -/
theorem cutL {lp : PV} {zs : List Int} (hl : IsL lp zs) (hp : Hp) : ∃ lp' c, IsL lp' (zs.take 60) ∧ primLen tys hp 22 (some lp) = some (i zs.length, hp) ∧ primMin hp false (some [i zs.length, i 60]) = some (i c, hp) ∧
    primSlice tys hp 22 (some lp) (some none) (some (some (i c))) (some none) = some (lp', hp) := by
  have hmin : primMin hp false (some [i zs.length, i 60]) = some (i (min zs.length 60), hp) := by
    show ret1 hp (match decide (IntKind.i64 = IntKind.i64) with | true => some (.v (.int .i64 (match ileb (.ofNat zs.length) (.ofNat 60) with | true => .ofNat zs.length | false => .ofNat 60))) | false => none) = _
    simp only [decide_true, ileb_nat]
    by_cases h : zs.length ≤ 60
    · rw [decide_eq_true h, Nat.min_eq_left h]; rfl
    · rw [decide_eq_false h, Nat.min_eq_right (by omega)]; rfl
  rcases hl with ⟨rfl, rfl⟩ | ⟨ex, rfl⟩
  · exact ⟨nl, 0, .inl ⟨rfl, rfl⟩, rfl, rfl, rfl⟩
  · have hlen : (zs.map fun z => [num z]).length = zs.length := by simp
    refine ⟨.sl (((zs.map fun z => [num z]).take (min zs.length 60)).drop 0) (ex && Nat.beq (min zs.length 60) (zs.map fun z => [num z]).length), min zs.length 60, .inr ⟨(ex && Nat.beq (min zs.length 60) (zs.map fun z => [num z]).length), ?_⟩, ?_, hmin, ?_⟩
    · congr 1
      rw [List.drop_zero, ← List.map_take]
      congr 1
      rw [Nat.min_comm, ← List.take_take, List.take_length]
    · show ret1 hp (some (i (zs.map fun z => [num z]).length)) = _
      rw [hlen]; rfl
    · show ret1 hp (match slFits 1 (zs.map fun z => [num z]) with | false => none | true => sliceSl (zs.map fun z => [num z]) ex none (some (i (min zs.length 60))) none) = _
      have hfit : slFits 1 (zs.map fun z => [num z]) = true := by cases zs <;> rfl
      rw [hfit]
      simp only [sliceSl]
      have hb : bound (zs.map fun z => [num z]).length (some (i (min zs.length 60))) (zs.map fun z => [num z]).length = some (min zs.length 60) := by
        rw [hlen]
        simp only [bound]
        have : Nat.ble (min zs.length 60) zs.length = true := Nat.ble_eq_true_of_le (Nat.min_le_left _ _)
        simp [this]
      rw [hb]
      rfl
theorem law3 (z : Int) {lp : PV} {zs : List Int} (hl : IsL lp zs) : Known Tryz.prog 3 [lp, num z] (bo true) := by
  refine known_orc tOk mixed fnsOOk orc_ok e3ok (n := 101) ?_
  show bodyF tys e3 (run tys fnsO orc 101) [lp, num z] ⟨[], 0, []⟩ (dataK _ ⟨[], 0, []⟩) = _
  obtain ⟨lp', c, hl', q1, q2, q3⟩ := cutL hl ⟨[], 0, []⟩
  have q4 : primBuild tys ⟨[], 0, []⟩ 25 (some [(0, lp')]) = some (.agg [lp', i 0], ⟨[], 0, []⟩) := by
    rcases hl' with ⟨rfl, _⟩ | ⟨ex, rfl⟩ <;> rfl
  have q5 : primBox tys ⟨[], 0, []⟩ 25 (some (.agg [lp', i 0])) = some (.ptr 0 0, ⟨[(0, src lp' 0)], 1, []⟩) := by
    rcases hl' with ⟨rfl, _⟩ | ⟨ex, rfl⟩ <;> rfl
  obtain ⟨_, a2, hp2, ⟨v, rfl, hv⟩, s2, f2, c2⟩ := value3 (R := PV) hl' (by simp; omega) 100 (by omega) ⟨[(0, src lp' 0)], 1, []⟩ 0 0 (by show 0 < 1; omega) rfl
  have kb := get_new_next hp2 ⟨zero, 7, false, 0⟩
  have q6 := store31 kb rfl hv.1.seven
  have k6 := put_at ⟨v, 7, false, 0⟩ kb
  generalize hC : (hp2.new ⟨zero, 7, false, 0⟩).put hp2.next ⟨v, 7, false, 0⟩ = hpC at q6 k6
  have nC : hpC.next = hp2.next + 1 := by rw [← hC]; rfl
  obtain ⟨m, q7⟩ := conv_u hpC z
  have q8 : primBin tys hpC .rem 33 (some (.v (.int .u64 (.ofNat m)))) (some (.v (.int .u64 (.ofNat 5)))) = some (.v (.int .u64 (.ofNat (m % 5))), hpC) := by
    rw [primBin_eq, bin_int, int_rem .u64 m 5 (by omega), ret1_some']
  have hm5 : m % 5 < 5 := Nat.mod_lt _ (by omega)
  have q9 := conv_i hpC hm5
  obtain ⟨hp', hr⟩ := rest_all (R := PV) hv (id := hp2.next) (by omega) k6 hm5 100 (by omega) (endK tys e3.fn (dataK (fun p _ => some p) ⟨[], 0, []⟩))
  unfold rest3 at hr
  simp only [ev_seq] at hr
  rw [b3, show 101 = 100 + 1 from rfl, run_succ, c3_eq]
  simp only [ev_seq, r3_0a, seqK_normal, r3_1a, q1, q2, q3, q4, q5, bP_some, r3_2a, c2, alloc31, q6, r3_3a, q7, q8, q9, hr, endK_ret, z3a, consO_some, oneR_one, bQ_some]
  rfl
end
end D
end Go.Ev
