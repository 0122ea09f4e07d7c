/- The law's function: whatever list and number, it answers true. -/
import Derived.Test.YthblmompgocidaaGreatDoorEvMb
set_option linter.all false
namespace Go.Ev
open Go.Proofs
/-- a run that asks an oracle which tells the truth -/
theorem known_orc [Env] {P : Program} {T : Types} (hT : TOk P T) (hm : P.follows .mixedOrders = true) {FT : Fns} (hF : FTOk P FT) {O : Orc} (hO : OrcOk P O) {f : Nat} {fi : FI} (hf : FIOk P f fi) {n : Nat} {ds : List PV} {q : PV}
    (h : (callD (R := PV) T fi (run T FT O n) (fun p _ => some p) (some (ds, ⟨[], 0, []⟩))) = some q) : Known P f ds q := by
  have hr := run_sound (R := PV) (.un : PV) hT (drawSound (R := PV) .un hT hm) hF hO n
  have hu := run_uni (T := T) (R := PV) FT O n
  unfold callD at h
  simp only [] at h
  rcases bodyF_uni (T := T) hu fi ds ⟨[], 0, []⟩ with g | ⟨x, h', g⟩
  · have g' : ∀ k, bodyF T fi (run T FT O n) ds ⟨[], 0, []⟩ k = none := g
    rw [g'] at h; cases h
  · have g' : ∀ k, bodyF T fi (run T FT O n) ds ⟨[], 0, []⟩ k = k x h' := g
    rw [g'] at h
    unfold dataK at h
    cases hq : freeze deepN h' x with
    | none => simp [hq] at h
    | some qh =>
      simp only [hq] at h
      cases h
      obtain ⟨h1, h2⟩ := bodyF_sound' (.un : PV) hT hu hr ⟨hf.1, hf.2.1, hf.2.2.1⟩ g'
      refine ⟨h1, fun w F args hF1 hv => ?_⟩
      refine Calls.mono (h2 w F noMap args (HS.empty 0 hF1) hv) ?_
      rintro e w' ⟨v, F', M', rfl, k1, k2, k3⟩
      obtain ⟨F2, m1, m2, m3⟩ := freeze_sound deepN h' x qh.1 qh.2 hq F' v k2 k1
      have hx : Ext w w' F F2 noMap M' := k3.trans m2
      have hx' : Ext w w' F F2 noMap noMap := ⟨hx.os, hx.tape, hx.output, hx.size, hx.keep, hx.cell, fun _ _ h => h, hx.mF, fun _ _ h => .inl h, hx.newF⟩
      exact ⟨v, F2, rfl, m3, m1.fw, hx'⟩
section
variable {R : Type}
theorem call_state {T : Types} {FT : Fns} {O : Orc} {rc : RC R} {f id : Nat} {l ds : List PV} {hp : Hp} {b : Blk} {q : PV} {cs : List PV} {k : PV → Hp → Option R} (hf : FT.get f = none) (hl : freezeL deepN hp l = some (ds, hp)) (hg : hp.get id = some b) (hk : stOk b = true)
    (ho : O f (stKey b.ty b.cells ds) = some (.tup [q, .tup cs])) (hlen : Nat.beq cs.length b.cells.length = true) (hc : stCells cs = true) : callF T FT O rc f (.ptr id 0 :: l) hp k = k q (hp.put id ⟨cs, b.sz, false, 0, b.ty⟩) := by
  unfold callF
  rw [hf]
  simp only [callA, callS, hl, hg, hk, ho, stAns, hlen, hc, Bool.and_self]
end
namespace B
theorem freeze_cell {c : PV} (h : Cell c) (n : Nat) (hp : Hp) : freeze (n + 1) hp c = some (c, hp) := by
  rcases h.2 with ⟨x, rfl⟩ | ⟨es, ex, rfl⟩ <;> rfl
theorem freezeL_cells : ∀ {l : List PV} {n : Nat} (hp : Hp), (∀ c ∈ l, Cell c) → l.length + 1 < n → freezeL n hp l = some (l, hp)
  | [], n + 1, hp, _, _ => rfl
  | c :: l, n + 2, hp, h, hn => by
    simp only [freezeL, freeze_cell (h c (by simp)), freezeL_cells hp (fun d hd => h d (by simp [hd])) (show l.length + 1 < n + 1 by simp at hn; omega)]
def Arg (p : PV) : Prop := Cell p ∨ ∃ cs, p = .agg cs ∧ (∀ c ∈ cs, Cell c) ∧ cs.length ≤ 20
theorem freeze_arg {p : PV} (h : Arg p) {n : Nat} (hn : 30 ≤ n) (hp : Hp) : freeze n hp p = some (p, hp) := by
  obtain ⟨m, rfl⟩ : ∃ m, n = m + 1 := ⟨n - 1, by omega⟩
  rcases h with h | ⟨cs, rfl, h1, h2⟩
  · exact freeze_cell h m hp
  · simp only [freeze, freezeL_cells hp h1 (show cs.length + 1 < m by omega)]
theorem freezeL_args : ∀ {l : List PV} {n : Nat} (hp : Hp), (∀ c ∈ l, Arg c) → l.length + 40 < n → freezeL n hp l = some (l, hp)
  | [], n + 1, hp, _, _ => rfl
  | c :: l, n + 1, hp, h, hn => by
    simp only [freezeL, freeze_arg (h c (by simp)) (show 30 ≤ n by simp at hn; omega), freezeL_args hp (fun d hd => h d (by simp [hd])) (show l.length + 40 < n by simp at hn; omega)]
theorem T_arg [Env] (a : Nat) : Arg (T a) := .inr ⟨_, rfl, (by
  intro c hc
  simp only [List.mem_cons, List.not_mem_nil, or_false] at hc
  rcases hc with rfl | rfl
  · exact nodes_cell a
  · exact cell_v _), by simp⟩
theorem v_arg (x : Value) : Arg (.v x) := .inl (cell_v x)
theorem txt_v : ∀ a, ∃ v, txtOf a = .v v
  | 0 => ⟨_, rfl⟩
  | 1 => ⟨_, rfl⟩
  | 2 => ⟨_, rfl⟩
  | 3 => ⟨_, rfl⟩
  | 4 => ⟨_, rfl⟩
  | 5 => ⟨_, rfl⟩
  | 6 => ⟨_, rfl⟩
  | _ + 7 => ⟨_, rfl⟩
theorem lst13 {v : List PV} (h : v.length = 13) : ∃ c0 c1 c2 c3 c4 c5 c6 c7 c8 c9 c10 c11 c12, v = [c0, c1, c2, c3, c4, c5, c6, c7, c8, c9, c10, c11, c12] := by
  rcases v with _ | ⟨c0, _ | ⟨c1, _ | ⟨c2, _ | ⟨c3, _ | ⟨c4, _ | ⟨c5, _ | ⟨c6, _ | ⟨c7, _ | ⟨c8, _ | ⟨c9, _ | ⟨c10, _ | ⟨c11, _ | ⟨c12, _ | ⟨c13, r⟩⟩⟩⟩⟩⟩⟩⟩⟩⟩⟩⟩⟩⟩ <;> simp at h
  exact ⟨_, _, _, _, _, _, _, _, _, _, _, _, _, rfl⟩
/-- what is asked in the law's run -/
noncomputable def iff (c : Prop) (x y : Option PV) : Option PV := @ite _ c (Classical.propDecidable c) x y
theorem iff_t {c : Prop} (h : c) (x y : Option PV) : iff c x y = x := by unfold iff; exact if_pos h
theorem iff_f {c : Prop} (h : ¬ c) (x y : Option PV) : iff c x y = y := by unfold iff; exact if_neg h
noncomputable def orc (a : Nat) (lp : PV) (d w : List PV) (a' : Nat) (b l : Bool) : Orc := fun f ds =>
  iff (f = 4 ∧ ds = [txtOf a]) (some (.tup [T a, I 0])) (iff (f = 5 ∧ ds = stKey 33 [lp, I 0] [T a, I (rt a), I 4]) (some (.tup [.agg d, .tup [lp, I a']]))
    (iff (f = 6 ∧ ds = .agg d :: T a :: pq) (some (.agg w)) (iff (f = 7 ∧ ds = [.agg d, T a]) (some (Bo b)) (iff (f = 8 ∧ ds = .agg w :: pq) (some (Bo l)) (iff (f = 9 ∧ ds = []) (some (Bo true)) none)))))
section
variable [E : Env]
theorem orc_ok {a : Nat} (ha : a < 8) {lp : PV} {d w : List PV} {a' : Nat} {b l : Bool} (h5 : KnownS Tryz.prog 5 33 [lp, I 0] [T a, I (rt a), I 4] (.agg d) [lp, I a']) (h6 : Known Tryz.prog 6 ([.agg d, T a] ++ pq) (.agg w)) (h7 : Known Tryz.prog 7 [.agg d, T a] (Bo b)) (h8 : Known Tryz.prog 8 (.agg w :: pq) (Bo l)) :
    OrcOk Tryz.prog (orc a lp d w a' b l) := by
  intro f ds q h
  unfold orc at h
  by_cases g : f = 4 ∧ ds = [txtOf a]
  · rw [iff_t g] at h; cases h; obtain ⟨rfl, rfl⟩ := g
    have := c4 a ha
    obtain ⟨v, hv⟩ := txt_v a
    rw [hv] at this ⊢
    exact this
  rw [iff_f g] at h
  by_cases g : f = 5 ∧ ds = stKey 33 [lp, I 0] [T a, I (rt a), I 4]
  · rw [iff_t g] at h; cases h; obtain ⟨rfl, rfl⟩ := g; exact ⟨_, _, rfl, h5⟩
  rw [iff_f g] at h
  by_cases g : f = 6 ∧ ds = .agg d :: T a :: pq
  · rw [iff_t g] at h; cases h; obtain ⟨rfl, rfl⟩ := g; exact h6
  rw [iff_f g] at h
  by_cases g : f = 7 ∧ ds = [.agg d, T a]
  · rw [iff_t g] at h; cases h; obtain ⟨rfl, rfl⟩ := g; exact h7
  rw [iff_f g] at h
  by_cases g : f = 8 ∧ ds = .agg w :: pq
  · rw [iff_t g] at h; cases h; obtain ⟨rfl, rfl⟩ := g; exact h8
  rw [iff_f g] at h
  by_cases g : f = 9 ∧ ds = []
  · rw [iff_t g] at h; cases h; obtain ⟨rfl, rfl⟩ := g; exact c9
  rw [iff_f g] at h
  cases h
end
section
variable (a : Nat) (lp : PV) (d w : List PV) (a' : Nat) (b l : Bool)
theorem o4 : orc a lp d w a' b l 4 [txtOf a] = some (.tup [T a, I 0]) := iff_t ⟨rfl, rfl⟩ _ _
theorem o5 : orc a lp d w a' b l 5 (stKey 33 [lp, I 0] [T a, I (rt a), I 4]) = some (.tup [.agg d, .tup [lp, I a']]) := (iff_f (fun h => absurd h.1 (by decide)) _ _).trans (iff_t ⟨rfl, rfl⟩ _ _)
theorem o6 : orc a lp d w a' b l 6 (.agg d :: T a :: pq) = some (.agg w) := (iff_f (fun h => absurd h.1 (by decide)) _ _).trans ((iff_f (fun h => absurd h.1 (by decide)) _ _).trans (iff_t ⟨rfl, rfl⟩ _ _))
theorem o7 : orc a lp d w a' b l 7 [.agg d, T a] = some (Bo b) := (iff_f (fun h => absurd h.1 (by decide)) _ _).trans ((iff_f (fun h => absurd h.1 (by decide)) _ _).trans ((iff_f (fun h => absurd h.1 (by decide)) _ _).trans (iff_t ⟨rfl, rfl⟩ _ _)))
theorem o8 : orc a lp d w a' b l 8 (.agg w :: pq) = some (Bo l) := (iff_f (fun h => absurd h.1 (by decide)) _ _).trans ((iff_f (fun h => absurd h.1 (by decide)) _ _).trans ((iff_f (fun h => absurd h.1 (by decide)) _ _).trans ((iff_f (fun h => absurd h.1 (by decide)) _ _).trans (iff_t ⟨rfl, rfl⟩ _ _))))
theorem o9 : orc a lp d w a' b l 9 [] = some (Bo true) := (iff_f (fun h => absurd h.1 (by decide)) _ _).trans ((iff_f (fun h => absurd h.1 (by decide)) _ _).trans ((iff_f (fun h => absurd h.1 (by decide)) _ _).trans ((iff_f (fun h => absurd h.1 (by decide)) _ _).trans ((iff_f (fun h => absurd h.1 (by decide)) _ _).trans (iff_t ⟨rfl, rfl⟩ _ _)))))
end
def hp1 : Hp := ⟨[(0, ⟨[txtOf 0, txtOf 1, txtOf 2, txtOf 3, txtOf 4, txtOf 5, txtOf 6, txtOf 7], 1, false, 0, 9⟩)], 1, []⟩
def hp2 (a : Nat) : Hp := ⟨[(1, ⟨[nodes a, I (rt a)], 2, false, 0, 26⟩), (0, ⟨[txtOf 0, txtOf 1, txtOf 2, txtOf 3, txtOf 4, txtOf 5, txtOf 6, txtOf 7], 1, false, 0, 9⟩)], 2, []⟩
def hp3 (a : Nat) (lp : PV) (n : Nat) : Hp := ⟨[(2, src lp n), (1, ⟨[nodes a, I (rt a)], 2, false, 0, 26⟩), (0, ⟨[txtOf 0, txtOf 1, txtOf 2, txtOf 3, txtOf 4, txtOf 5, txtOf 6, txtOf 7], 1, false, 0, 9⟩)], 3, []⟩
section
variable {R : Type}
theorem r31 (call : CallK R) (rc : RC R) (x0 x1 : PV) (k : Ex → St → Option R) : evC tys e3 r3_1 call rc ⟨[(0, x0), (1, x1)], ⟨[], 0, []⟩⟩ k = k .normal ⟨[(0, x0), (1, x1), (5, .row 0 0 8 8 1)], hp1⟩ := by
  rw [r3_1a]; rfl
theorem text_at : ∀ a, a < 8 → ∀ (f : PV → Hp → Option R), (bP (primIndexAddr tys hp1 23 (some (.row 0 0 8 8 1)) (some (.v (.int .u64 (.ofNat a))))) fun y7 g7 => bP (primLoad tys g7 9 (some y7)) f) = f (txtOf a) hp1 :=
  eight (fun f => rfl) (fun f => rfl) (fun f => rfl) (fun f => rfl) (fun f => rfl) (fun f => rfl) (fun f => rfl) (fun f => rfl)
theorem wrap_u64 (z : Int) : ∃ m : Nat, IntKind.u64.wrap z = .ofNat m := by
  have : (0 : Int) ≤ IntKind.u64.wrap z := by
    unfold IntKind.wrap
    simp only [show IntKind.u64.signed = false from rfl, Bool.false_and, Bool.false_eq_true, if_false]
    exact Int.emod_nonneg _ (by decide)
  exact ⟨(IntKind.u64.wrap z).toNat, (Int.toNat_of_nonneg this).symm⟩
theorem conv_u (hp : Hp) (z : Int) : ∃ m : Nat, primConv tys hp 3 30 (some (num z)) = some (.v (.int .u64 (.ofNat m)), hp) := by
  obtain ⟨m, hm⟩ := wrap_u64 z
  refine ⟨m, ?_⟩
  rw [conv_int_eq (si := y3) (di := y30) rfl rfl rfl rfl]
  show some (PV.v (.int .u64 (IntKind.u64.wrap z)), hp) = _
  rw [hm]
/-- the first seventy -/
theorem cutL {lp : PV} {zs : List Int} (hl : IsL lp zs) : ∃ lp' c, IsL lp' (zs.take 70) ∧ ∀ hp, primLen tys hp 22 (some lp) = some (i zs.length, hp) ∧ primMin hp false (some [i zs.length, i 70]) = some (i c, hp) ∧
    primSlice tys hp 22 (some lp) (some none) (some (some (i c))) (some none) = some (lp', hp) := by
  have hmin : ∀ hp, primMin hp false (some [i zs.length, i 70]) = some (i (min zs.length 70), hp) := by
    intro hp
    show ret1 hp (match decide (IntKind.i64 = IntKind.i64) with | true => some (.v (.int .i64 (match ileb (.ofNat zs.length) (.ofNat 70) with | true => .ofNat zs.length | false => .ofNat 70))) | false => none) = _
    have hle : ileb (.ofNat zs.length) (.ofNat 70) = Nat.ble zs.length 70 := rfl
    simp only [decide_true, hle]
    by_cases h : zs.length ≤ 70
    · rw [Nat.ble_eq_true_of_le h, Nat.min_eq_left h]; rfl
    · rw [show Nat.ble zs.length 70 = false by rw [Bool.eq_false_iff]; exact fun e => h (Nat.le_of_ble_eq_true e), Nat.min_eq_right (by omega)]; rfl
  rcases hl with ⟨rfl, rfl⟩ | ⟨ex, rfl⟩
  · exact ⟨nl, 0, .inl ⟨rfl, rfl⟩, fun hp => ⟨rfl, rfl, rfl⟩⟩
  · have hlen : (zs.map fun z => [num z]).length = zs.length := by simp
    refine ⟨.sl (((zs.map fun z => [num z]).take (min zs.length 70)).drop 0) (ex && Nat.beq (min zs.length 70) (zs.map fun z => [num z]).length), min zs.length 70, .inr ⟨(ex && Nat.beq (min zs.length 70) (zs.map fun z => [num z]).length), ?_⟩, fun hp => ⟨?_, hmin hp, ?_⟩⟩
    · congr 1
      rw [List.drop_zero, ← List.map_take]
      congr 1
      rw [Nat.min_comm, ← List.take_take, List.take_length]
    · show ret1 hp (some (i (zs.map fun z => [num z]).length)) = _
      rw [hlen]; rfl
    · show ret1 hp (match slFits 1 (zs.map fun z => [num z]) with | false => none | true => sliceSl (zs.map fun z => [num z]) ex none (some (i (min zs.length 70))) none) = _
      have hfit : slFits 1 (zs.map fun z => [num z]) = true := by cases zs <;> rfl
      rw [hfit]
      simp only [sliceSl]
      have hb : bound (zs.map fun z => [num z]).length (some (i (min zs.length 70))) (zs.map fun z => [num z]).length = some (min zs.length 70) := by
        rw [hlen]
        simp only [bound]
        have : Nat.ble (min zs.length 70) zs.length = true := Nat.ble_eq_true_of_le (Nat.min_le_left _ _)
        simp [this]
      rw [hb]
      rfl
end
section
variable [E : Env]
theorem law3 (z : Int) {lp : PV} {zs : List Int} (hl : IsL lp zs) : Known Tryz.prog 3 [num z, lp] (Bo true) := by
  obtain ⟨lp', c, hl', hq⟩ := cutL hl
  obtain ⟨m, qm⟩ := conv_u hp1 z
  have ha : m % 8 < 8 := Nat.mod_lt _ (by omega)
  generalize hma : m % 8 = a at ha
  have hS : SrcL lp' := ⟨_, hl', by simp; omega⟩
  obtain ⟨x, a', gx, h5⟩ := near_root ha hS 0
  obtain ⟨w, b, l, h6, h7, h8, hbl, hwl, hwc⟩ := closes ha gx (Nat.le_refl 8)
  have f := gx.fact ha
  have hdc := f.dc
  have hdl := f.dl
  generalize x.d = d at *
  have hO := orc_ok ha h5 h6 h7 h8
  have aT := T_arg a
  have ad : Arg (.agg d) := .inr ⟨d, rfl, hdc, by omega⟩
  have aw : Arg (.agg w) := .inr ⟨w, rfl, hwc, by omega⟩
  have av : ∀ x, Arg (.v x) := v_arg
  have k4 : ∀ (hp : Hp) (K : PV → Hp → Option PV), callF tys .lf (orc a lp' d w a' b l) (run tys .lf (orc a lp' d w a' b l) 1) 4 [txtOf a] hp K = K (.tup [T a, I 0]) hp := fun hp K => by
    refine call_asked rfl (freezeL_args hp ?_ (by simp [deepN])) (o4 _ _ _ _ _ _ _)
    obtain ⟨v, hv⟩ := txt_v a
    rw [hv]
    simpa using av v
  have k6 : ∀ (hp : Hp) (K : PV → Hp → Option PV), callF tys .lf (orc a lp' d w a' b l) (run tys .lf (orc a lp' d w a' b l) 1) 6 [.agg d, T a, S [112], S [113]] hp K = K (.agg w) hp := fun hp K =>
    call_asked rfl (freezeL_args hp (by intro c hc; simp only [List.mem_cons, List.not_mem_nil, or_false] at hc; rcases hc with rfl | rfl | rfl | rfl; exact ad; exact aT; exact av _; exact av _) (by simp [deepN])) (o6 _ _ _ _ _ _ _)
  have k7 : ∀ (hp : Hp) (K : PV → Hp → Option PV), callF tys .lf (orc a lp' d w a' b l) (run tys .lf (orc a lp' d w a' b l) 1) 7 [.agg d, T a] hp K = K (Bo b) hp := fun hp K =>
    call_asked rfl (freezeL_args hp (by intro c hc; simp only [List.mem_cons, List.not_mem_nil, or_false] at hc; rcases hc with rfl | rfl; exact ad; exact aT) (by simp [deepN])) (o7 _ _ _ _ _ _ _)
  have k8 : ∀ (hp : Hp) (K : PV → Hp → Option PV), callF tys .lf (orc a lp' d w a' b l) (run tys .lf (orc a lp' d w a' b l) 1) 8 [.agg w, S [112], S [113]] hp K = K (Bo l) hp := fun hp K =>
    call_asked rfl (freezeL_args hp (by intro c hc; simp only [List.mem_cons, List.not_mem_nil, or_false] at hc; rcases hc with rfl | rfl | rfl; exact aw; exact av _; exact av _) (by simp [deepN])) (o8 _ _ _ _ _ _ _)
  have k9 : ∀ (hp : Hp) (K : PV → Hp → Option PV), callF tys .lf (orc a lp' d w a' b l) (run tys .lf (orc a lp' d w a' b l) 1) 9 [] hp K = K (Bo true) hp := fun hp K =>
    call_asked rfl rfl (o9 _ _ _ _ _ _ _)
  have k5 : ∀ (K : PV → Hp → Option PV), callF tys .lf (orc a lp' d w a' b l) (run tys .lf (orc a lp' d w a' b l) 1) 5 [.ptr 2 0, T a, I (rt a), I 4] (hp3 a lp' 0) K = K (.agg d) (hp3 a lp' a') := fun K => by
    refine (call_state (b := src lp' 0) (cs := [lp', I a']) (q := .agg d) rfl (freezeL_args _ (by intro c hc; simp only [List.mem_cons, List.not_mem_nil, or_false] at hc; rcases hc with rfl | rfl | rfl; exact aT; exact av _; exact av _) (by simp [deepN])) rfl (src_ok hS 0) (o5 _ _ _ _ _ _ _) rfl ?_).trans rfl
    have := src_ok hS a'
    unfold stOk at this
    simp only [Bool.and_eq_true] at this
    exact this.2.2.2
  obtain ⟨d0, d1, d2, d3, d4, d5, d6, d7, d8, d9, d10, d11, d12, hd⟩ := lst13 hdl
  obtain ⟨w0, w1, w2, w3, w4, w5, w6, w7, w8, w9, w10, w11, w12, hw⟩ := lst13 hwl
  refine known_orc tOk mixed lfOk hO e3ok (n := 2) ?_
  show bodyF tys e3 (run tys .lf (orc a lp' d w a' b l) 2) [num z, lp] ⟨[], 0, []⟩ (dataK _ ⟨[], 0, []⟩) = _
  have q8 : primBin tys hp1 .rem 30 (some (.v (.int .u64 (.ofNat m)))) (some (.v (.int .u64 (.ofNat 8)))) = some (.v (.int .u64 (.ofNat a)), hp1) := by
    rw [primBin_eq, bin_int, int_rem .u64 m 8 (by omega), ret1_some', hma]
  have g1 : primLen tys hp1 23 (some (.row 0 0 8 8 1)) = some (I 8, hp1) := rfl
  have g2 : primConv tys hp1 3 30 (some (I 8)) = some (.v (.int .u64 (.ofNat 8)), hp1) := rfl
  have g3 : primExtract hp1 0 (some (.tup [T a, I 0])) = some (T a, hp1) := rfl
  have g4 : primExtract hp1 1 (some (.tup [T a, I 0])) = some (I 0, hp1) := rfl
  have g5 : primAlloc tys hp1 26 = some (.ptr 1 0, hp1.new ⟨[NL, I 0], 2, false, 0, 26⟩) := rfl
  have g6 : primStore tys (hp1.new ⟨[NL, I 0], 2, false, 0, 26⟩) 26 (some (.ptr 1 0)) (some (T a)) = some (.un, hp2 a) := rfl
  obtain ⟨q1, q2, q3⟩ := hq (hp2 a)
  have q4 : primBuild tys (hp2 a) 33 (some [(0, lp')]) = some (.agg [lp', I 0], hp2 a) := by
    rcases hl' with ⟨rfl, _⟩ | ⟨ex, rfl⟩ <;> rfl
  have q5 : primBox tys (hp2 a) 33 (some (.agg [lp', I 0])) = some (.ptr 2 0, hp3 a lp' 0) := rfl
  have q6 : primLoad tys (hp3 a lp' 0) 26 (some (.ptr 1 0)) = some (T a, hp3 a lp' 0) := rfl
  have q7 : primFieldAddr tys (hp3 a lp' 0) 26 1 (some (.ptr 1 0)) = some (.ptr 1 1, hp3 a lp' 0) := rfl
  have q9 : primLoad tys (hp3 a lp' 0) 3 (some (.ptr 1 1)) = some (I (rt a), hp3 a lp' 0) := rfl
  have z13 : primAlloc tys (hp3 a lp' a') 37 = some (.ptr 3 0, (hp3 a lp' a').new ⟨dFlat 0 (I 0) (S []), 13, false, 0, 37⟩) := rfl
  have s13 : primStore tys ((hp3 a lp' a').new ⟨dFlat 0 (I 0) (S []), 13, false, 0, 37⟩) 37 (some (.ptr 3 0)) (some (.agg d)) = some (.un, (hp3 a lp' a').new ⟨d, 13, false, 0, 37⟩) := by subst hd; rfl
  have t1 : primLoad tys ((hp3 a lp' a').new ⟨d, 13, false, 0, 37⟩) 37 (some (.ptr 3 0)) = some (.agg d, (hp3 a lp' a').new ⟨d, 13, false, 0, 37⟩) := by subst hd; rfl
  have t2 : primLoad tys ((hp3 a lp' a').new ⟨d, 13, false, 0, 37⟩) 26 (some (.ptr 1 0)) = some (T a, (hp3 a lp' a').new ⟨d, 13, false, 0, 37⟩) := rfl
  have t3 : primAlloc tys ((hp3 a lp' a').new ⟨d, 13, false, 0, 37⟩) 37 = some (.ptr 4 0, ((hp3 a lp' a').new ⟨d, 13, false, 0, 37⟩).new ⟨dFlat 0 (I 0) (S []), 13, false, 0, 37⟩) := rfl
  have t4 : primStore tys (((hp3 a lp' a').new ⟨d, 13, false, 0, 37⟩).new ⟨dFlat 0 (I 0) (S []), 13, false, 0, 37⟩) 37 (some (.ptr 4 0)) (some (.agg w)) = some (.un, ((hp3 a lp' a').new ⟨d, 13, false, 0, 37⟩).new ⟨w, 13, false, 0, 37⟩) := by subst hw; rfl
  have u1 : primLoad tys (((hp3 a lp' a').new ⟨d, 13, false, 0, 37⟩).new ⟨w, 13, false, 0, 37⟩) 37 (some (.ptr 3 0)) = some (.agg d, ((hp3 a lp' a').new ⟨d, 13, false, 0, 37⟩).new ⟨w, 13, false, 0, 37⟩) := by subst hd; rfl
  have u2 : primLoad tys (((hp3 a lp' a').new ⟨d, 13, false, 0, 37⟩).new ⟨w, 13, false, 0, 37⟩) 26 (some (.ptr 1 0)) = some (T a, ((hp3 a lp' a').new ⟨d, 13, false, 0, 37⟩).new ⟨w, 13, false, 0, 37⟩) := rfl
  have u3 : primLoad tys (((hp3 a lp' a').new ⟨d, 13, false, 0, 37⟩).new ⟨w, 13, false, 0, 37⟩) 37 (some (.ptr 4 0)) = some (.agg w, ((hp3 a lp' a').new ⟨d, 13, false, 0, 37⟩).new ⟨w, 13, false, 0, 37⟩) := by subst hw; rfl
  have un : ∀ (hp : Hp) (b : Bool), primUn hp .not (some (Bo b)) = some (Bo (!b), hp) := fun _ _ => rfl
  generalize ((hp3 a lp' a').new ⟨d, 13, false, 0, 37⟩).new ⟨w, 13, false, 0, 37⟩ = hq5 at *
  rw [b3, show 2 = 1 + 1 from rfl, run_succ, c3_eq]
  cases hb : b with
  | false =>
    subst hb
    simp only [ev_seq, r3_0a, seqK_normal, r31, r3_2a, qm, g1, g2, q8, text_at a ha, k4, g3, g4, g5, g6, bP_some, r3_3a, q1, q2, q3, q4, q5, r3_4a, q6, q7, q9, k5, z13, s13, r3_5a, t1, t2, k6, t3, t4, r3_6a, u1, u2, k7, un, Bool.not_false, want_ft, bW_false, pick_t, want_tt, bW_true, k9, ev_ret, seqK_ret, endK_ret, z3a, consO_some, oneR_one, bQ_some]
    rfl
  | true =>
    have hlf := hbl hb
    subst hlf
    subst hb
    simp only [ev_seq, r3_0a, seqK_normal, r31, r3_2a, qm, g1, g2, q8, text_at a ha, k4, g3, g4, g5, g6, bP_some, r3_3a, q1, q2, q3, q4, q5, r3_4a, q6, q7, q9, k5, z13, s13, r3_5a, t1, t2, k6, t3, t4, r3_6a, u1, u2, u3, k7, k8, un, Bool.not_true, Bool.not_false, want_ff, bW_true, pick_f, pick_t, want_tt, k9, ev_ret, seqK_ret, endK_ret, z3a, consO_some, oneR_one, bQ_some]
    rfl
end
end B
end Go.Ev
