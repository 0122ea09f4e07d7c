/- Equal to itself; what is asked while values are drawn. -/
import Derived.Test.YtpahaogeenalpaaGreatEvJd
import Derived.Test.YtpahaogeenalpaaGreatEvKb
import Derived.Test.YtpahaogeenalpaaGreatEvKc
import Derived.Test.YtpahaogeenalpaaGreatEvKd
set_option linter.all false
/- Equal to itself; what is asked while values are drawn. -/
namespace Go.Ev
mutual
theorem peq_mono : ∀ (n : Nat) (x y : PV), peq n x y = true → peq (n + 1) x y = true
  | 0, _, _, h => by simp [peq] at h
  | n + 1, x, y, h => by
    unfold peq at h ⊢
    split at h <;> first | exact h | (simp only [Bool.and_eq_true] at h ⊢; exact ⟨h.1, peqE_mono n _ _ h.2⟩) | exact peqL_mono n _ _ h
theorem peqL_mono : ∀ (n : Nat) (x y : List PV), peqL n x y = true → peqL (n + 1) x y = true
  | 0, _, _, h => by simp [peqL] at h
  | n + 1, x, y, h => by
    unfold peqL at h ⊢
    split at h
    · rfl
    · simp only [Bool.and_eq_true] at h ⊢
      exact ⟨peq_mono n _ _ h.1, peqL_mono n _ _ h.2⟩
    · cases h
theorem peqE_mono : ∀ (n : Nat) (x y : List (List PV)), peqE n x y = true → peqE (n + 1) x y = true
  | 0, _, _, h => by simp [peqE] at h
  | n + 1, x, y, h => by
    unfold peqE at h ⊢
    split at h
    · rfl
    · simp only [Bool.and_eq_true] at h ⊢
      exact ⟨peqL_mono n _ _ h.1, peqE_mono n _ _ h.2⟩
    · cases h
end
theorem peq_le {n m : Nat} (hn : n ≤ m) {x y : PV} (h : peq n x y = true) : peq m x y = true := by
  induction hn with
  | refl => exact h
  | step _ ih => exact peq_mono _ _ _ ih
theorem peqL_le {n m : Nat} (hn : n ≤ m) {x y : List PV} (h : peqL n x y = true) : peqL m x y = true := by
  induction hn with
  | refl => exact h
  | step _ ih => exact peqL_mono _ _ _ ih
theorem peqL_all : ∀ {n : Nat} {cs : List PV}, (∀ c ∈ cs, peq n c c = true) → peqL (n + cs.length + 1) cs cs = true
  | n, [], _ => by unfold peqL; rfl
  | n, c :: cs, h => by
    have ih := peqL_all (n := n) (cs := cs) fun x hx => h x (by simp [hx])
    show peqL ((n + (cs.length + 1)) + 1) (c :: cs) (c :: cs) = true
    unfold peqL
    simp only [Bool.and_eq_true]
    exact ⟨peq_le (by omega) (h c (by simp)), ih⟩
theorem peqE_all : ∀ {n : Nat} {cs : List (List PV)}, (∀ c ∈ cs, peqL n c c = true) → peqE (n + cs.length + 1) cs cs = true
  | n, [], _ => by unfold peqE; rfl
  | n, c :: cs, h => by
    have ih := peqE_all (n := n) (cs := cs) fun x hx => h x (by simp [hx])
    show peqE ((n + (cs.length + 1)) + 1) (c :: cs) (c :: cs) = true
    unfold peqE
    simp only [Bool.and_eq_true]
    exact ⟨peqL_le (by omega) (h c (by simp)), ih⟩
namespace D
open Go.Proofs
theorem peq_slOf {n : Nat} {es : List (List PV)} (h : ∀ e ∈ es, peqL n e e = true) : peq (n + es.length + 2) (slOf es) (slOf es) = true := by
  cases es with
  | nil => unfold slOf peq; rfl
  | cons e r =>
    show peq ((n + (e :: r).length + 1) + 1) (.sl (e :: r) false) (.sl (e :: r) false) = true
    unfold peq
    simp only [Bool.and_eq_true]
    exact ⟨rfl, peqE_all h⟩
theorem peq_flat : ∀ c ∈ nums ++ words ++ atoms ++ pids ++ labels ++ [i 0, i 1, i 2, i 3, i 4, i 5, i 6, i 7, i 8, i 9, sb [], nl, bo true, bo false], peq 10 c c = true := by decide
theorem peq_keys : ∀ k ∈ keys, peqL 10 k k = true := by decide
section
variable [E : Env]
/-- a value whose cells are seen to be equal to themselves in n steps -/
def GB (n : Nat) (v : List PV) : Prop := GV v ∧ peqL n v v = true
theorem seven_eq {n : Nat} {a b c d e f g : PV} (h0 : peq n a a = true) (h1 : peq n b b = true) (h2 : peq n c c = true) (h3 : peq n d d = true) (h4 : peq n e e = true) (h5 : peq n f f = true) (h6 : peq n g g = true) : peqL (n + 8) [a, b, c, d, e, f, g] [a, b, c, d, e, f, g] = true :=
  peqL_all (cs := [a, b, c, d, e, f, g]) fun x hx => by
    simp only [List.mem_cons, List.not_mem_nil, or_false] at hx
    rcases hx with rfl | rfl | rfl | rfl | rfl | rfl | rfl <;> assumption
theorem pf {c : PV} (h : c ∈ nums ++ words ++ atoms ++ pids ++ labels ++ [i 0, i 1, i 2, i 3, i 4, i 5, i 6, i 7, i 8, i 9, sb [], nl, bo true, bo false]) {n : Nat} (hn : 10 ≤ n) : peq n c c = true := peq_le hn (peq_flat c h)
theorem pl {l : PV} (h : l ∈ labels) {n : Nat} (hn : 10 ≤ n) : peq n l l = true := pf (by simp [h]) hn
theorem GB.le {n m : Nat} (h : n ≤ m) {v : List PV} (hv : GB n v) : GB m v := ⟨hv.1, peqL_le h hv.2⟩
theorem GB.int {c l : PV} (h : c ∈ nums) (hl : l ∈ labels) : GB 20 (vInt c l) := ⟨.int h hl, peqL_le (by omega) (seven_eq (n := 10) (pf (by simp) (by omega)) (pf (by simp [h]) (by omega)) (pf (by simp) (by omega)) (pf (by simp) (by omega)) (pf (by simp) (by omega)) (pf (by simp) (by omega)) (pl hl (by omega)))⟩
theorem GB.str {c l : PV} (h : c ∈ words) (hl : l ∈ labels) : GB 20 (vStr c l) := ⟨.str h hl, peqL_le (by omega) (seven_eq (n := 10) (pf (by simp) (by omega)) (pf (by simp) (by omega)) (pf (by simp [h]) (by omega)) (pf (by simp) (by omega)) (pf (by simp) (by omega)) (pf (by simp) (by omega)) (pl hl (by omega)))⟩
theorem GB.atom {c l : PV} (h : c ∈ atoms) (hl : l ∈ labels) : GB 20 (vAtom c l) := ⟨.atom h hl, peqL_le (by omega) (seven_eq (n := 10) (pf (by simp) (by omega)) (pf (by simp) (by omega)) (pf (by simp [h]) (by omega)) (pf (by simp) (by omega)) (pf (by simp) (by omega)) (pf (by simp) (by omega)) (pl hl (by omega)))⟩
theorem GB.pid {c l : PV} (h : c ∈ pids) (hl : l ∈ labels) : GB 20 (vPid c l) := ⟨.pid h hl, peqL_le (by omega) (seven_eq (n := 10) (pf (by simp) (by omega)) (pf (by simp [h]) (by omega)) (pf (by simp) (by omega)) (pf (by simp) (by omega)) (pf (by simp) (by omega)) (pf (by simp) (by omega)) (pl hl (by omega)))⟩
theorem GB.nil {l : PV} (hl : l ∈ labels) : GB 20 (vNil l) := ⟨.nil hl, peqL_le (by omega) (seven_eq (n := 10) (pf (by simp) (by omega)) (pf (by simp) (by omega)) (pf (by simp) (by omega)) (pf (by simp) (by omega)) (pf (by simp) (by omega)) (pf (by simp) (by omega)) (pl hl (by omega)))⟩
theorem GB.tup {n : Nat} {ks : List (List PV)} {l : PV} (hn : ks.length ≤ 3) (h : ∀ k ∈ ks, GB n k) (hl : l ∈ labels) : GB (n + 40) (vTup ks l) :=
  ⟨.tup hn (fun k hk => (h k hk).1) hl, peqL_le (by omega) (seven_eq (n := n + 20) (pf (by simp) (by omega)) (pf (by simp) (by omega)) (pf (by simp) (by omega)) (peq_le (by omega) (peq_slOf fun k hk => (h k hk).2)) (pf (by simp) (by omega)) (pf (by simp) (by omega)) (pl hl (by omega)))⟩
theorem GB.cons {n : Nat} {a t : List PV} {l : PV} (h1 : GB n a) (h2 : GB n t) (ht : ∃ r, t = i 5 :: r ∨ t = i 7 :: r) (hl : l ∈ labels) : GB (n + 40) (vCons a t l) :=
  ⟨.cons h1.1 h2.1 ht hl, peqL_le (by omega) (seven_eq (n := n + 20) (pf (by simp) (by omega)) (pf (by simp) (by omega)) (pf (by simp) (by omega)) (peq_le (by simp) (peq_slOf (n := n) (es := [a, t]) (by intro k hk; simp at hk; rcases hk with rfl | rfl; exact h1.2; exact h2.2))) (pf (by simp) (by omega)) (pf (by simp) (by omega)) (pl hl (by omega)))⟩
theorem GB.map {n : Nat} {keys ks : List (List PV)} {l : PV} (hk : keys ∈ keyLists) (hn : ks.length = keys.length) (h : ∀ k ∈ ks, GB n k) (hl : l ∈ labels) : GB (n + 40) (vMap keys ks l) := by
  have hlen := keyLists_len hk
  exact ⟨.map hk hn (fun k hk => (h k hk).1) hl, peqL_le (by omega) (seven_eq (n := n + 30) (pf (by simp) (by omega)) (pf (by simp) (by omega)) (pf (by simp) (by omega)) (peq_le (by omega) (peq_slOf fun k hk => (h k hk).2)) (peq_le (by omega) (peq_slOf (n := 10) fun k hk' => peq_keys k (keyLists_keys hk k hk'))) (pf (by simp) (by omega)) (pl hl (by omega)))⟩
theorem GB.fn {n : Nat} {c : PV} {es : List (List PV)} {l : PV} (hg : GV (vFun c es l)) (hc : c ∈ [i 0, i 1, i 2]) (hn : es.length ≤ 2) (h : ∀ e ∈ es, peqL n e e = true) (hl : l ∈ labels) : GB (n + 40) (vFun c es l) :=
  ⟨hg, peqL_le (by omega) (seven_eq (n := n + 20) (pf (by simp) (by omega)) (pf (by simp at hc; rcases hc with rfl | rfl | rfl <;> simp) (by omega)) (pf (by simp) (by omega)) (pf (by simp) (by omega)) (pf (by simp) (by omega)) (peq_le (by omega) (peq_slOf h)) (pl hl (by omega)))⟩
theorem ent_eq {n : Nat} {xs : List (List PV)} {r : Option (List PV)} (hx : xs.length ≤ 2) (h1 : ∀ x ∈ xs, peqL n x x = true) (h2 : ∀ x, r = some x → peqL n x x = true) : peqL (n + 30) (ent xs r) (ent xs r) = true := by
  have ha : peq (n + 20) (slOf xs) (slOf xs) = true := peq_le (by omega) (peq_slOf h1)
  have hz : peqL 18 zero zero = true := seven_eq (n := 10) (pf (by simp) (by omega)) (pf (by simp) (by omega)) (pf (by simp) (by omega)) (pf (by simp) (by omega)) (pf (by simp) (by omega)) (pf (by simp) (by omega)) (pf (by simp) (by omega))
  have step : ∀ (b : Bool) (z : List PV), peqL (n + 20) z z = true → peqL (n + 30) (slOf xs :: bo b :: z) (slOf xs :: bo b :: z) = true := by
    intro b z hz'
    have : peqL (n + 22) (slOf xs :: bo b :: z) (slOf xs :: bo b :: z) = true := by
      unfold peqL
      simp only [Bool.and_eq_true]
      refine ⟨peq_le (by omega) ha, ?_⟩
      unfold peqL
      simp only [Bool.and_eq_true]
      exact ⟨by cases b <;> exact pf (by simp) (by omega), hz'⟩
    exact peqL_le (by omega) this
  cases r with
  | none => exact step true zero (peqL_le (by omega) hz)
  | some x => exact step false x (peqL_le (by omega) (h2 x rfl))
/-! ### what is asked -/
noncomputable def hval (k : List PV) : Bool := @dite Bool (HD k) (Classical.propDecidable _) (fun h => Classical.choose h) (fun _ => false)
theorem hval_ok {k : List PV} (h : GV k) : Known Tryz.prog 7 [.agg k] (bo (hval k)) ∧ Known Tryz.prog 43 (atData k 0) (bo (!hval k)) := by
  have := holdsData h
  unfold hval
  rw [dif_pos this]
  exact Classical.choose_spec this
def fexp (k : List PV) (a : Nat) : Bool := match k with
  | .v (.int .i64 (.ofNat 9)) :: .v (.int .i64 (.ofNat n)) :: _ => Nat.beq n a
  | _ => false
/-- does no entry fail? -/
def calm (es : List (List PV)) : Bool := es.all fun e => match e with
  | _ :: .v (.bool b) :: _ => !b
  | _ => true
def texp (k : List PV) (a : Nat) : Bool := fexp k a && match k with
  | [_, _, _, _, _, .sl es _, _] => calm es
  | _ => true
def lexp (k : List PV) : Bool := match k with
  | .v (.int .i64 (.ofNat 5)) :: _ => true
  | .v (.int .i64 (.ofNat 7)) :: _ => true
  | _ => false
noncomputable def mexp (k : List PV) (c : Nat) : Bool := match c with
  | 0 => !hval k
  | 1 => fexp k 0
  | 2 => fexp k 1
  | 3 => fexp k 2
  | 4 => fexp k 3
  | 5 => fexp k 4
  | 6 => texp k 0
  | 7 => texp k 1
  | 8 => texp k 2
  | 9 => texp k 3
  | 10 => texp k 4
  | 11 => false
  | _ => lexp k
def code (t : PV) : Nat := tys13.findIdx fun x => peq 1000 t x
theorem codes : tys13.map code = [0, 1, 2, 3, 4, 5, 6, 7, 8, 9, 10, 11, 12] := by kernel_rfl
end
end D
end Go.Ev

/- Members of the thirteen types; the oracle. -/
namespace Go.Ev.D
open Go.Proofs
section
variable [E : Env]
theorem clean_tys : ∀ t ∈ tys13, clean t = true := by decide
theorem sub_at0 (σ : Nat → PV) (u : List PV) {t : PV} (ht : t ∈ tys13) : subL σ (at0 u t) = at0 (subL σ u) t := by
  unfold at0
  simp only [subL_cons, subL_nil, sub_agg, sub_v, sub_clean σ t (clean_tys t ht)]
theorem wf_tys : ∀ t ∈ tys13, Known Tryz.prog 41 [t] (i 0) := by
  intro t ht
  simp only [tys13, List.mem_cons, List.not_mem_nil, or_false] at ht
  rcases ht with rfl | rfl | rfl | rfl | rfl | rfl | rfl | rfl | rfl | rfl | rfl | rfl | rfl
  · exact k161
  · exact k167
  · exact k168
  · exact k169
  · exact k170
  · exact k171
  · exact k173
  · exact k175
  · exact k177
  · exact k179
  · exact k181
  · exact k183
  · exact k185
theorem no_fun {kd : Nat} (hk : kd ∈ [1, 2, 3, 4, 5, 6, 7, 8]) {r : List PV} (hr : r.length = 6) (hc : ∀ c ∈ r, Cell c) {t : PV} (ht : t ∈ tFuns ++ tTots) : Known Tryz.prog 43 (at0 (i kd :: r) t) (bo false) := by
  have h := t_okNoFun
  unfold okNoFun at h
  have h1 := List.all_eq_true.1 (List.all_eq_true.1 h kd hk) t ht
  have ht' : t ∈ tys13 := by
    simp only [tys13, tFuns, tTots, List.cons_append, List.nil_append, List.mem_cons, List.not_mem_nil, or_false] at ht ⊢
    rcases ht with rfl | rfl | rfl | rfl | rfl | rfl | rfl | rfl | rfl | rfl <;> simp
  have := chkM_use (fit_pick hc) e43ok h1
  rwa [sub_at0 _ _ ht', sub_kind hr, sub_v] at this
theorem calm_ents : ∀ (ps : List Ent), calm (ents ps) = !anyB (ps.map fun p => isN p.2)
  | [] => rfl
  | p :: ps => by
    have ih := calm_ents ps
    unfold calm ents anyB at ih ⊢
    simp only [List.map_cons, List.all_cons, List.any_cons, ih, Bool.not_or]
    congr 1
    obtain ⟨xs, r⟩ := p
    cases r <;> rfl
theorem entFill_len {n : Nat} : ∀ {ps : List Ent}, (∀ p ∈ ps, p.1.length = n) → (∀ p ∈ ps, Seven p.1) → (∀ p ∈ ps, ∀ x, p.2 = some x → x.length = 7) → (entFill ps).length = 7 * ((n + 1) * ps.length)
  | [], _, _, _ => rfl
  | p :: ps, h1, h2, h3 => by
    have ih := entFill_len (ps := ps) (fun q hq => h1 q (by simp [hq])) (fun q hq => h2 q (by simp [hq])) (fun q hq => h3 q (by simp [hq]))
    have a := seven_flat (h2 p (by simp))
    have b : (p.2.getD zero).length = 7 := by
      cases hr : p.2 with
      | none => rfl
      | some x => exact h3 p (by simp) x hr
    simp only [entFill, List.length_append, a, b, ih, h1 p (by simp), List.length_cons, Nat.mul_add, Nat.mul_one]
    omega
theorem sub_funS {n : Nat} {ps : List Ent} (h : EntsOk n ps) {l : PV} : subL (pick (entFill ps ++ [sb [], nl, nl, l])) (funS n (ps.map fun p => isN p.2)) = vFun (i n) (ents ps) l := by
  obtain ⟨e1, _⟩ := sub_entsP (n := n) (ps := ps) (pre := []) (post := [sb [], nl, nl, l]) (a := 0) rfl h.args (fun p hp' k hk => (h.gvA p hp' k hk).seven) (fun p hp' x hx => (h.gvR p hp' x hx).seven)
  have hl := entFill_len h.args (fun p hp' k hk => (h.gvA p hp' k hk).seven) (fun p hp' x hx => (h.gvR p hp' x hx).seven)
  simp only [List.nil_append] at e1
  unfold funS vFun
  simp only [List.length_map, subL_cons, subL_nil, sub_v, sub_unk, sub_slOf, e1]
  have p0 := pick_rest (pre := entFill ps) (rest := [sb [], nl, nl, l]) hl 0
  have p1 := pick_rest (pre := entFill ps) (rest := [sb [], nl, nl, l]) hl 1
  have p2 := pick_rest (pre := entFill ps) (rest := [sb [], nl, nl, l]) hl 2
  have p3 := pick_rest (pre := entFill ps) (rest := [sb [], nl, nl, l]) hl 3
  rw [Nat.add_zero] at p0
  rw [p0, p1, p2, p3]
  rfl
theorem fun_mem {n : Nat} (hn : n ≤ 2) {ps : List Ent} (h : EntsOk n ps) {l : PV} (hl : l ∈ labels) {a : Nat} (ha : a < 5) {tf tt : PV} (hf : tFuns[a]? = some tf) (ht : tTots[a]? = some tt) (mf : tf ∈ tys13) (mt : tt ∈ tys13) :
    Known Tryz.prog 43 (at0 (vFun (i n) (ents ps) l) tf) (bo (Nat.beq n a)) ∧ Known Tryz.prog 43 (at0 (vFun (i n) (ents ps) l) tt) (bo (Nat.beq n a && calm (ents ps))) := by
  have hfit : Fit (pick (entFill ps ++ [sb [], nl, nl, l])) := fit_pick (cells_app (entFill_cells (fun p hp' x hx => (h.gvA p hp' x hx).cells) (fun p hp' x hx => (h.gvR p hp' x hx).cells)) (four (cS []) cN cN (c_labels l hl)))
  constructor
  · have g := t_okFunFun
    unfold okFunFun at g
    have g1 := List.all_eq_true.1 (List.all_eq_true.1 (List.all_eq_true.1 g n (by simp; omega)) (ps.map fun p => isN p.2) (flags_mem _ h.len)) a (by simp; omega)
    simp only [hf] at g1
    have := chkM_use hfit e43ok g1
    rwa [sub_at0 _ _ mf, sub_funS h, sub_v] at this
  · have g := t_okFunTot
    unfold okFunTot at g
    have g1 := List.all_eq_true.1 (List.all_eq_true.1 (List.all_eq_true.1 g n (by simp; omega)) (ps.map fun p => isN p.2) (flags_mem _ h.len)) a (by simp; omega)
    simp only [ht] at g1
    have := chkM_use hfit e43ok g1
    rw [sub_at0 _ _ mt, sub_funS h, sub_v, ← calm_ents] at this
    exact this
theorem bool_mem {kd : Nat} (hk : kd ∈ [1, 2, 4, 5, 6, 7, 8, 9]) {r : List PV} (hr : r.length = 6) (hc : ∀ c ∈ r, Cell c) : Known Tryz.prog 43 (at0 (i kd :: r) tBool) (bo false) := by
  have h := t_okBoolT
  unfold okBoolT at h
  rw [Bool.and_eq_true] at h
  have := chkM_use (fit_pick hc) e43ok (List.all_eq_true.1 h.1 kd hk)
  rwa [sub_at0 _ _ (by simp [tys13]), sub_kind hr, sub_v] at this
theorem list_mem {kd : Nat} (hk : kd ∈ [1, 2, 3, 4, 6, 8, 9]) {r : List PV} (hr : r.length = 6) (hc : ∀ c ∈ r, Cell c) : Known Tryz.prog 43 (at0 (i kd :: r) tList) (bo false) := by
  have h := t_okListT
  unfold okListT at h
  simp only [Bool.and_eq_true] at h
  have := chkM_use (fit_pick hc) e43ok (List.all_eq_true.1 h.1.1 kd hk)
  rwa [sub_at0 _ _ (by simp [tys13]), sub_kind hr, sub_v] at this
theorem texp_no {kd : Nat} (hk : kd ∈ [1, 2, 3, 4, 5, 6, 7, 8]) (r : List PV) (a : Nat) : fexp (i kd :: r) a = false ∧ texp (i kd :: r) a = false := by
  have : fexp (i kd :: r) a = false := by
    simp only [List.mem_cons, List.not_mem_nil, or_false] at hk
    rcases hk with rfl | rfl | rfl | rfl | rfl | rfl | rfl | rfl <;> (unfold fexp; rfl)
  exact ⟨this, by unfold texp; rw [this]; rfl⟩
/-- all but functions -/
theorem mem_other {kd : Nat} (hk : kd ∈ [1, 2, 3, 4, 5, 6, 7, 8]) {r : List PV} (hg : GV (i kd :: r)) (hb : Known Tryz.prog 43 (at0 (i kd :: r) tBool) (bo false)) (hl : Known Tryz.prog 43 (at0 (i kd :: r) tList) (bo (lexp (i kd :: r)))) :
    ∀ c t, tys13[c]? = some t → Known Tryz.prog 43 (at0 (i kd :: r) t) (bo (mexp (i kd :: r) c)) := by
  have hr := six hg
  have hc := cells_tl hg.cells
  have hf : ∀ a t, t ∈ tFuns ++ tTots → Known Tryz.prog 43 (at0 (i kd :: r) t) (bo (fexp (i kd :: r) a)) := fun a t ht => by rw [(texp_no hk r a).1]; exact no_fun hk hr hc ht
  have ht' : ∀ a t, t ∈ tFuns ++ tTots → Known Tryz.prog 43 (at0 (i kd :: r) t) (bo (texp (i kd :: r) a)) := fun a t ht => by rw [(texp_no hk r a).2]; exact no_fun hk hr hc ht
  intro c t h
  match c with
  | 0 => simp [tys13] at h; subst h; exact (hval_ok hg).2
  | 1 => simp [tys13] at h; subst h; exact hf 0 _ (by simp [tFuns])
  | 2 => simp [tys13] at h; subst h; exact hf 1 _ (by simp [tFuns])
  | 3 => simp [tys13] at h; subst h; exact hf 2 _ (by simp [tFuns])
  | 4 => simp [tys13] at h; subst h; exact hf 3 _ (by simp [tFuns])
  | 5 => simp [tys13] at h; subst h; exact hf 4 _ (by simp [tFuns])
  | 6 => simp [tys13] at h; subst h; exact ht' 0 _ (by simp [tTots])
  | 7 => simp [tys13] at h; subst h; exact ht' 1 _ (by simp [tTots])
  | 8 => simp [tys13] at h; subst h; exact ht' 2 _ (by simp [tTots])
  | 9 => simp [tys13] at h; subst h; exact ht' 3 _ (by simp [tTots])
  | 10 => simp [tys13] at h; subst h; exact ht' 4 _ (by simp [tTots])
  | 11 => simp [tys13] at h; subst h; exact hb
  | 12 => simp [tys13] at h; subst h; exact hl
  | c + 13 => simp [tys13] at h
theorem mem_all {k : List PV} (h : GV k) : ∀ c t, tys13[c]? = some t → Known Tryz.prog 43 (at0 k t) (bo (mexp k c)) := by
  have oth : ∀ {kd : Nat} {r : List PV}, GV (i kd :: r) → kd ∈ [1, 2, 4, 6, 8] → ∀ c t, tys13[c]? = some t → Known Tryz.prog 43 (at0 (i kd :: r) t) (bo (mexp (i kd :: r) c)) := by
    intro kd r hg hk
    have hr := six hg
    have hc := cells_tl hg.cells
    have e : lexp (i kd :: r) = false := by
      simp only [List.mem_cons, List.not_mem_nil, or_false] at hk
      rcases hk with rfl | rfl | rfl | rfl | rfl <;> rfl
    have hk2 : kd ∈ [1, 2, 3, 4, 5, 6, 7, 8] ∧ kd ∈ [1, 2, 4, 5, 6, 7, 8, 9] ∧ kd ∈ [1, 2, 3, 4, 6, 8, 9] := by
      simp only [List.mem_cons, List.not_mem_nil, or_false] at hk ⊢
      omega
    exact mem_other hk2.1 hg (bool_mem hk2.2.1 hr hc) (by rw [e]; exact list_mem hk2.2.2 hr hc)
  cases h with
  | int h1 h2 => exact oth (.int h1 h2) (by decide)
  | str h1 h2 => exact oth (.str h1 h2) (by decide)
  | pid h1 h2 => exact oth (.pid h1 h2) (by decide)
  | tup h1 h2 h3 => exact oth (.tup h1 h2 h3) (by decide)
  | map h1 h2 h3 h4 => exact oth (.map h1 h2 h3 h4) (by decide)
  | atom h1 h2 =>
    rename_i t l
    have hg := GV.atom h1 h2
    refine mem_other (kd := 3) (by decide) hg ?_ (list_mem (by decide) rfl (cells_tl hg.cells))
    have h := t_okBoolT
    unfold okBoolT at h
    rw [Bool.and_eq_true] at h
    have := chkM_use (fit_pick (cells_app (one (cI 0)) (cells_tl (cells_tl (cells_tl hg.cells))))) e43ok (List.all_eq_true.1 h.2 t h1)
    rw [sub_at0 _ _ (by simp [tys13]), sub_v] at this
    simp only [subL_cons, sub_v, sub_unk, sub_cell (c_atoms t h1)] at this
    exact this
  | nil h1 =>
    have hg := GV.nil h1
    refine mem_other (kd := 5) (by decide) hg (bool_mem (by decide) rfl (cells_tl hg.cells)) ?_
    have h := t_okListT
    unfold okListT at h
    simp only [Bool.and_eq_true] at h
    have := chkM_use (fit_pick (cells_tl hg.cells)) e43ok h.1.2
    rw [sub_at0 _ _ (by simp [tys13]), sub_v, sub_kind rfl] at this
    exact this
  | cons h1 h2 h3 h4 =>
    rename_i hd t l
    have hg := GV.cons h1 h2 h3 h4
    refine mem_other (kd := 7) (by decide) hg (bool_mem (by decide) rfl (cells_tl hg.cells)) ?_
    have h := t_okListT
    unfold okListT at h
    simp only [Bool.and_eq_true] at h
    have gg : ∀ k ∈ [hd, t], GV k := by intro k hk; simp at hk; rcases hk with rfl | rfl <;> assumption
    have hs : Seven [hd, t] := fun k hk' => (gg k hk').seven
    have hc : ∀ k ∈ [hd, t], ∀ c ∈ k, Cell c := fun k hk' => (gg k hk').cells
    have := chkM_use (fit_pick (cells_app (cells_flat hc) (five (cI 0) (cS []) cN cN (c_labels _ h4)))) e43ok h.2
    rw [sub_at0 _ _ (by simp [tys13]), sub_v, show (2 : Nat) = [hd, t].length from rfl, sub_hs hs] at this
    exact this
  | fn h1 h2 h3 h4 h5 h6 h7 =>
    rename_i n ps l
    have hg := GV.fn h1 h2 h3 h4 h5 h6 h7
    have ho : EntsOk n ps := ⟨h2, h3, h4, h5⟩
    have hb := bool_mem (kd := 9) (by decide) rfl (cells_tl hg.cells)
    have hl := list_mem (kd := 9) (by decide) rfl (cells_tl hg.cells)
    have fm := fun {a : Nat} (ha : a < 5) {tf tt : PV} (hf : tFuns[a]? = some tf) (ht : tTots[a]? = some tt) (mf : tf ∈ tys13) (mt : tt ∈ tys13) => fun_mem h1 ho h7 ha hf ht mf mt
    have ct : calm (ents ps) = (match slOf (ents ps) with | .sl es _ => calm es | _ => true) := by
      cases ents ps <;> rfl
    have tex : ∀ a, texp (vFun (i n) (ents ps) l) a = (Nat.beq n a && calm (ents ps)) := by
      intro a
      unfold texp vFun fexp
      rw [ct]
      cases h : ents ps <;> rfl
    intro c t h
    show Known Tryz.prog 43 (at0 (vFun (i n) (ents ps) l) t) (bo (mexp (vFun (i n) (ents ps) l) c))
    match c with
    | 0 => simp [tys13] at h; subst h; exact (hval_ok hg).2
    | 1 => simp [tys13] at h; subst h; exact (fm (a := 0) (by omega) rfl rfl (by simp [tys13]) (by simp [tys13])).1
    | 2 => simp [tys13] at h; subst h; exact (fm (a := 1) (by omega) rfl rfl (by simp [tys13]) (by simp [tys13])).1
    | 3 => simp [tys13] at h; subst h; exact (fm (a := 2) (by omega) rfl rfl (by simp [tys13]) (by simp [tys13])).1
    | 4 => simp [tys13] at h; subst h; exact (fm (a := 3) (by omega) rfl rfl (by simp [tys13]) (by simp [tys13])).1
    | 5 => simp [tys13] at h; subst h; exact (fm (a := 4) (by omega) rfl rfl (by simp [tys13]) (by simp [tys13])).1
    | 6 => simp [tys13] at h; subst h; rw [mexp, tex]; exact (fm (a := 0) (by omega) rfl rfl (by simp [tys13]) (by simp [tys13])).2
    | 7 => simp [tys13] at h; subst h; rw [mexp, tex]; exact (fm (a := 1) (by omega) rfl rfl (by simp [tys13]) (by simp [tys13])).2
    | 8 => simp [tys13] at h; subst h; rw [mexp, tex]; exact (fm (a := 2) (by omega) rfl rfl (by simp [tys13]) (by simp [tys13])).2
    | 9 => simp [tys13] at h; subst h; rw [mexp, tex]; exact (fm (a := 3) (by omega) rfl rfl (by simp [tys13]) (by simp [tys13])).2
    | 10 => simp [tys13] at h; subst h; rw [mexp, tex]; exact (fm (a := 4) (by omega) rfl rfl (by simp [tys13]) (by simp [tys13])).2
    | 11 => simp [tys13] at h; subst h; exact hb
    | 12 => simp [tys13] at h; subst h; exact hl
    | c + 13 => simp [tys13] at h
theorem member_all {k : List PV} (h : GV k) {c : Nat} {t : PV} (ht : tys13[c]? = some t) : Known Tryz.prog 5 [.agg k, t] (bo (mexp k c)) := by
  have g := t_okMember
  unfold okMember at g
  have hm := List.mem_of_getElem? ht
  have g1 := List.all_eq_true.1 (List.all_eq_true.1 g t hm) (mexp k c) (mem_B2 _)
  have e0 : subL (pick k) (U 0) = k := by
    have := subL_urP (pre := []) (k := k) (post := []) (a := 0) rfl h.seven
    simp only [List.nil_append, List.append_nil] at this
    exact this
  have := chk_use (fit_pick h.cells) e5ok g1 (by
    simp only [subB, subP, sub_at0 _ _ hm, subL_cons, subL_nil, sub_agg, sub_v, e0, sub_clean _ t (clean_tys t hm)]
    exact ⟨⟨valid h, trivial⟩, ⟨wf_tys t hm, trivial⟩, ⟨mem_all h c t ht, trivial⟩, trivial⟩)
  simpa only [subL_cons, subL_nil, sub_agg, sub_v, e0, sub_clean _ t (clean_tys t hm)] using this
theorem slOf_inj {a b : List (List PV)} (h : slOf a = slOf b) : a = b := by
  cases a <;> cases b <;> simp [slOf] at h ⊢
  exact h
/-! ### the oracle -/
def Want (f : Nat) (ds : List PV) (q : PV) : Prop := match f with
  | 5 => ∃ k t, ds = [.agg k, t] ∧ q = bo (mexp k (code t))
  | 6 => q = tData
  | 7 => ∃ k, ds = [.agg k] ∧ q = bo (hval k)
  | 8 => ∃ a t, ds = [i a] ∧ tFuns[a]? = some t ∧ q = t
  | 9 => ∃ a t, ds = [i a] ∧ tTots[a]? = some t ∧ q = t
  | 10 => q = tBool
  | 11 => q = tList
  | 12 => q = bo true
  | 31 => ∃ ks, ds = [slOf ks] ∧ q = .agg (vTup ks nl)
  | 32 => q = .agg (vNil nl)
  | 33 => ∃ a b, ds = pair a b ∧ q = .agg (vCons a b nl)
  | 57 => ∃ c, ds = [c] ∧ q = .agg (vInt c nl)
  | 59 => ∃ c, ds = [c] ∧ q = .agg (vAtom c nl)
  | 61 => ∃ c, ds = [c] ∧ q = .agg (vStr c nl)
  | 63 => ∃ c, ds = [c] ∧ q = .agg (vPid c nl)
  | 35 => ∃ ks vs, ds = [slOf ks, slOf vs] ∧ (q = .tup [.agg zero, i 6] ∨ ∃ ks' vs', q = .tup [.agg (vMap ks' vs' nl), i 0] ∧ ks' ∈ keyLists ∧ vs'.length = ks'.length ∧ ∀ v ∈ vs', v ∈ vs)
  | 37 => ∃ n es fs, ds = [n, slOf es] ∧ q = .tup [.agg (vFun n fs nl), i 0] ∧ GV (vFun n fs nl) ∧ fs.length ≤ 2 ∧ ∀ e ∈ fs, e ∈ es
  | 39 => q ∈ labels
  | _ => False
noncomputable def orc : Orc := fun f ds => @dite (Option PV) (∃ q, Known Tryz.prog f ds q ∧ Want f ds q) (Classical.propDecidable _) (fun h => some (Classical.choose h)) (fun _ => none)
theorem orc_ok : OrcOk Tryz.prog orc := by
  intro f ds q h
  unfold orc at h
  split at h
  · rename_i hx
    cases h
    exact (Classical.choose_spec hx).1
  · cases h
theorem orc_says {f : Nat} {ds : List PV} {q : PV} (h1 : Known Tryz.prog f ds q) (h2 : Want f ds q) : ∃ q', orc f ds = some q' ∧ Want f ds q' := by
  have hx : ∃ q, Known Tryz.prog f ds q ∧ Want f ds q := ⟨q, h1, h2⟩
  refine ⟨Classical.choose hx, ?_, (Classical.choose_spec hx).2⟩
  unfold orc
  rw [dif_pos hx]
theorem o31 {ks : List (List PV)} (hn : ks.length ≤ 3) (hk : ∀ k ∈ ks, GV k) : orc 31 [slOf ks] = some (.agg (vTup ks nl)) := by
  obtain ⟨q, h1, ks', h2, rfl⟩ := orc_says (f := 31) (mkTup hn hk) ⟨ks, rfl, rfl⟩
  simp only [List.cons.injEq, and_true] at h2
  rw [slOf_inj h2]
  rw [slOf_inj h2] at h1
  exact h1
theorem o32 : orc 32 [] = some (.agg (vNil nl)) := by
  obtain ⟨q, h1, rfl⟩ := orc_says (f := 32) mkNil rfl
  exact h1
theorem o33 {a b : List PV} (ha : GV a) (hb : GV b) : orc 33 (pair a b) = some (.agg (vCons a b nl)) := by
  obtain ⟨q, h1, a', b', h2, rfl⟩ := orc_says (f := 33) (mkCons ha hb) ⟨a, b, rfl, rfl⟩
  simp only [pair, List.cons.injEq, PV.agg.injEq, and_true] at h2
  obtain ⟨rfl, rfl⟩ := h2
  exact h1
theorem o57 {c : PV} (hc : Cell c) : orc 57 [c] = some (.agg (vInt c nl)) := by
  obtain ⟨q, h1, c', h2, rfl⟩ := orc_says (f := 57) (mkInt hc) ⟨c, rfl, rfl⟩
  simp only [List.cons.injEq, and_true] at h2; subst h2; exact h1
theorem o59 {c : PV} (hc : Cell c) : orc 59 [c] = some (.agg (vAtom c nl)) := by
  obtain ⟨q, h1, c', h2, rfl⟩ := orc_says (f := 59) (mkAtom hc) ⟨c, rfl, rfl⟩
  simp only [List.cons.injEq, and_true] at h2; subst h2; exact h1
theorem o61 {c : PV} (hc : Cell c) : orc 61 [c] = some (.agg (vStr c nl)) := by
  obtain ⟨q, h1, c', h2, rfl⟩ := orc_says (f := 61) (mkStr hc) ⟨c, rfl, rfl⟩
  simp only [List.cons.injEq, and_true] at h2; subst h2; exact h1
theorem o63 {c : PV} (hc : Cell c) : orc 63 [c] = some (.agg (vPid c nl)) := by
  obtain ⟨q, h1, c', h2, rfl⟩ := orc_says (f := 63) (mkPid hc) ⟨c, rfl, rfl⟩
  simp only [List.cons.injEq, and_true] at h2; subst h2; exact h1
theorem o35 {ks vs : List (List PV)} (hk : ∀ k ∈ ks, k ∈ keys) (hv : ∀ v ∈ vs, GV v) (hl : ks.length = vs.length) (hn : ks.length ≤ 2) :
    orc 35 [slOf ks, slOf vs] = some (.tup [.agg zero, i 6]) ∨ ∃ ks' vs', orc 35 [slOf ks, slOf vs] = some (.tup [.agg (vMap ks' vs' nl), i 0]) ∧ ks' ∈ keyLists ∧ vs'.length = ks'.length ∧ ∀ v ∈ vs', v ∈ vs := by
  obtain ⟨q, h1, ks2, vs2, h2, h3⟩ := orc_says (f := 35) (mkMap hk hv hl hn) ⟨ks, vs, rfl, mapOut hk hv hl hn⟩
  simp only [List.cons.injEq, and_true] at h2
  obtain ⟨e1, e2⟩ := h2
  have e2 := slOf_inj e2
  subst e2
  rcases h3 with rfl | ⟨ks', vs', rfl, h⟩
  · exact .inl h1
  · exact .inr ⟨ks', vs', h1, h⟩
theorem o37 {n : Nat} (hn : n ≤ 2) {ps : List Ent} (h : EntsOk n ps) : ∃ fs, orc 37 [i n, slOf (ents ps)] = some (.tup [.agg (vFun (i n) fs nl), i 0]) ∧ GV (vFun (i n) fs nl) ∧ fs.length ≤ 2 ∧ ∀ e ∈ fs, e ∈ ents ps := by
  obtain ⟨c, qs, hc, hcmp, e, hg, hq⟩ := funOut hn h
  have hk := mkFun hn h hc hcmp
  rw [e] at hk
  have hqs : (ents qs).length ≤ 2 := by
    generalize hv : vFun (i n) (ents qs) nl = v at hg
    cases hg with
    | fn _ hp _ _ _ _ _ =>
      simp only [vFun, List.cons.injEq] at hv
      have := slOf_inj hv.2.2.2.2.2.1
      rw [this]; simpa using hp
    | _ => simp [vFun, vInt, vStr, vAtom, vPid, vNil, vTup, vCons, vMap] at hv
  obtain ⟨q, h1, n', es, fs, h2, rfl, h3, h4, h5⟩ := orc_says (f := 37) hk ⟨i n, ents ps, ents qs, rfl, rfl, hg, hqs, by
    intro e he
    obtain ⟨p, hp, rfl⟩ := List.mem_map.1 he
    exact List.mem_map.2 ⟨p, hq p hp, rfl⟩⟩
  simp only [List.cons.injEq, and_true] at h2
  obtain ⟨e1, e2⟩ := h2
  have e2 := slOf_inj e2
  subst e1 e2
  exact ⟨fs, h1, h3, h4, h5⟩
theorem o39 {ls : List (List PV)} (hl : ∀ e ∈ ls, e ∈ labs3) (hn : ls.length ≤ 2) : ∃ q, orc 39 [slOf ls] = some q ∧ q ∈ labels := by
  obtain ⟨h1, h2⟩ := mkSort hl hn
  obtain ⟨q, h3, h4⟩ := orc_says (f := 39) h1 h2
  exact ⟨q, h3, h4⟩
theorem o7 {k : List PV} (h : GV k) : orc 7 [.agg k] = some (bo (hval k)) := by
  obtain ⟨q, h1, k', h2, rfl⟩ := orc_says (f := 7) (hval_ok h).1 ⟨k, rfl, rfl⟩
  simp only [List.cons.injEq, PV.agg.injEq, and_true] at h2; subst h2; exact h1
theorem code_at {c : Nat} {t : PV} (h : tys13[c]? = some t) : code t = c := by
  have h1 := codes
  have h2 : (tys13.map code)[c]? = some (code t) := by rw [List.getElem?_map, h]; rfl
  rw [h1] at h2
  have hc : c < 13 := (List.getElem?_eq_some_iff.1 h).1
  match c, hc with
  | 0, _ => simpa using h2.symm
  | 1, _ => simpa using h2.symm
  | 2, _ => simpa using h2.symm
  | 3, _ => simpa using h2.symm
  | 4, _ => simpa using h2.symm
  | 5, _ => simpa using h2.symm
  | 6, _ => simpa using h2.symm
  | 7, _ => simpa using h2.symm
  | 8, _ => simpa using h2.symm
  | 9, _ => simpa using h2.symm
  | 10, _ => simpa using h2.symm
  | 11, _ => simpa using h2.symm
  | 12, _ => simpa using h2.symm
theorem o5 {k : List PV} (h : GV k) {c : Nat} {t : PV} (ht : tys13[c]? = some t) : orc 5 [.agg k, t] = some (bo (mexp k c)) := by
  obtain ⟨q, h1, k', t', h2, rfl⟩ := orc_says (f := 5) (member_all h ht) ⟨k, t, rfl, by rw [code_at ht]⟩
  simp only [List.cons.injEq, PV.agg.injEq, and_true] at h2
  obtain ⟨rfl, rfl⟩ := h2
  rw [code_at ht] at h1
  exact h1
theorem o6 : orc 6 [] = some tData := by
  obtain ⟨q, h1, rfl⟩ := orc_says (f := 6) (ds := []) (q := tData) k160 rfl
  exact h1
theorem o10 : orc 10 [] = some tBool := by
  obtain ⟨q, h1, rfl⟩ := orc_says (f := 10) (ds := []) (q := tBool) k182 rfl
  exact h1
theorem o11 : orc 11 [] = some tList := by
  obtain ⟨q, h1, rfl⟩ := orc_says (f := 11) (ds := []) (q := tList) k184 rfl
  exact h1
theorem o12 : orc 12 [] = some (bo true) := by
  obtain ⟨q, h1, rfl⟩ := orc_says (f := 12) (ds := []) (q := bo true) k159 rfl
  exact h1
theorem o8 {a : Nat} {t : PV} (ht : tFuns[a]? = some t) : orc 8 [i a] = some t := by
  have hk : Known Tryz.prog 8 [i a] t := by
    match a with
    | 0 => simp [tFuns] at ht; subst ht; exact k166
    | 1 => simp [tFuns] at ht; subst ht; exact k162
    | 2 => simp [tFuns] at ht; subst ht; exact k163
    | 3 => simp [tFuns] at ht; subst ht; exact k164
    | 4 => simp [tFuns] at ht; subst ht; exact k165
    | a + 5 => simp [tFuns] at ht
  obtain ⟨q, h1, a', t', h2, h3, rfl⟩ := orc_says (f := 8) hk ⟨a, t, rfl, ht, rfl⟩
  simp only [List.cons.injEq, PV.v.injEq, Value.int.injEq, Int.ofNat.injEq, true_and, and_true] at h2
  subst h2
  rw [ht] at h3
  cases h3
  exact h1
theorem o9 {a : Nat} {t : PV} (ht : tTots[a]? = some t) : orc 9 [i a] = some t := by
  have hk : Known Tryz.prog 9 [i a] t := by
    match a with
    | 0 => simp [tTots] at ht; subst ht; exact k172
    | 1 => simp [tTots] at ht; subst ht; exact k174
    | 2 => simp [tTots] at ht; subst ht; exact k176
    | 3 => simp [tTots] at ht; subst ht; exact k178
    | 4 => simp [tTots] at ht; subst ht; exact k180
    | a + 5 => simp [tTots] at ht
  obtain ⟨q, h1, a', t', h2, h3, rfl⟩ := orc_says (f := 9) hk ⟨a, t, rfl, ht, rfl⟩
  simp only [List.cons.injEq, PV.v.injEq, Value.int.injEq, Int.ofNat.injEq, true_and, and_true] at h2
  subst h2
  rw [ht] at h3
  cases h3
  exact h1
end
end Go.Ev.D
