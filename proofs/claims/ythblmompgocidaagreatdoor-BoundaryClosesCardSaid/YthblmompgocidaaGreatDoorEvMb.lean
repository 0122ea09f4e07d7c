/- What near makes. -/
import Derived.Test.YthblmompgocidaaGreatDoorEvMa
set_option linter.all false
namespace Go.Ev.B
open Go.Proofs
def isIn (l : List Nat) (k : Nat) : Bool := l.any fun j => Nat.beq j k
theorem isIn_mem {l : List Nat} {k : Nat} (h : isIn l k = true) : k ∈ l := by
  obtain ⟨j, h1, h2⟩ := List.any_eq_true.1 h
  rw [← Nat.eq_of_beq_eq_true h2]
  exact h1
def rOk (A k : Nat) : NK → Bool
  | .tup ks => match ks with
    | [k0] => isIn (reach A) k0 && !(match (nds A)[k]? with | some nk => isUn nk | none => true)
    | [k0, k1] => isIn (reach A) k0 && isIn (reach A) k1
    | _ => false
  | .cons x y => isIn (reach A) x && isIn (reach A) y
  | .map f r0 r1 => isIn (reach A) f && (isIn (reach A) r0 && isIn (reach A) r1)
  | .un ks => ks.all fun k' => isIn (reach A) k' && (match (nds A)[k']? with | some nk => !isUn nk | none => false)
  | .fn _ => Nat.beq k (fk A)
  | .atom t => decide (t ∈ atomsT)
  | _ => true
theorem u_rOk : ∀ A, A < 8 → ((reach A).all fun k => match (nds A)[k]? with | some nk => rOk A k nk | none => false) = true := eight rfl rfl rfl rfl rfl rfl rfl rfl
theorem far_mem : ∀ A, A < 8 → (far A, [109], 1, 0) ∈ fnLs := eight (by decide) (by decide) (by decide) (by decide) (by decide) (by decide) (by decide) (by decide)
theorem root_in : ∀ A, A < 8 → rt A ∈ reach A := eight (by decide) (by decide) (by decide) (by decide) (by decide) (by decide) (by decide) (by decide)
theorem u_near : ∀ A, A < 8 → ∀ d, d < 4 → ((reach A).all fun k => okNear CT A k (d + 1)) = true := by
  intro A hA d hd
  have hd : d = 0 ∨ d = 1 ∨ d = 2 ∨ d = 3 := by omega
  rcases hd with rfl | rfl | rfl | rfl
  · exact eight (p := fun A => ((reach A).all fun k => okNear CT A k 1) = true) t_near0_1 t_near1_1 t_near2_1 t_near3_1 t_near4_1 t_near5_1 t_near6_1 t_near7_1 A hA
  · exact eight (p := fun A => ((reach A).all fun k => okNear CT A k 2) = true) t_near0_2 t_near1_2 t_near2_2 t_near3_2 t_near4_2 t_near5_2 t_near6_2 t_near7_2 A hA
  · exact eight (p := fun A => ((reach A).all fun k => okNear CT A k 3) = true) t_near0_3 t_near1_3 t_near2_3 t_near3_3 t_near4_3 t_near5_3 t_near6_3 t_near7_3 A hA
  · exact eight (p := fun A => ((reach A).all fun k => okNear CT A k 4) = true) t_near0_4 t_near1_4 t_near2_4 t_near3_4 t_near4_4 t_near5_4 t_near6_4 t_near7_4 A hA
theorem u_near0 : ∀ A, A < 8 → ((reach A).all fun k => okNear0 CT A k) = true := eight t_nearz_0 t_nearz_1 t_nearz_2 t_nearz_3 t_nearz_4 t_nearz_5 t_nearz_6 t_nearz_7
theorem GD.kind {A n : Nat} {x : X} (h : GD A n x) : ∃ κ r r', κ < 10 ∧ x.d = I κ :: r ∧ x.v = I κ :: r' := by
  cases h with
  | leaf hx =>
    rename_i y
    cases y <;> first | exact ⟨1, _, _, by omega, rfl, rfl⟩ | exact ⟨2, _, _, by omega, rfl, rfl⟩ | exact ⟨3, _, _, by omega, rfl, rfl⟩ | exact ⟨4, _, _, by omega, rfl, rfl⟩ | exact ⟨5, _, _, by omega, rfl, rfl⟩ | exact ⟨9, _, _, by omega, rfl, rfl⟩
  | comp hs hl hg hc =>
    rename_i s xs
    have : ∀ s ∈ shapes, s.1 < 10 := by decide
    exact ⟨s.1, _, _, this s hs, rfl, rfl⟩
section
variable [E : Env]
def Nr (A dep k : Nat) : Prop := ∀ lp a, SrcL lp → ∃ x a', GD A (dep + 4) x ∧ KnownS Tryz.prog 5 33 [lp, I a] [T A, I k, I dep] (.agg x.d) [lp, I a']
theorem sub_args (σ : Nat → PV) (A k dep : Nat) : subL σ [T A, I k, I dep] = [T A, I k, I dep] := by simp only [subL_cons, subL_nil, sub_T, sub_v]
theorem near0 {A : Nat} (hA : A < 8) {k : Nat} (hk : k ∈ reach A) : Nr A 0 k := by
  intro lp a hl
  obtain ⟨x0, a1, g0, k1⟩ := md2 hA lp a hl
  have f0 := g0.fact hA
  have e0 : subL (sg lp [a, a1] (x0.d ++ [])) (D 0) = x0.d := sg_D0 (by simp) f0.dl
  have := run_use (@e5ok) (List.all_eq_true.1 (u_near0 A hA) k hk) hl (a := a) (ps := [a1]) (ds := x0.d ++ []) (by simpa using f0.dc) (a' := a1) rfl (ch_mk k1 e0 ch_nil) trivial
  simp only [aD, sub_args, sub_agg, e0] at this
  exact ⟨x0, a1, g0, this⟩
theorem get_use {j : Nat} (hj : j < 8) {x : List PV} (hx : x.length = 13) (hc : ∀ c ∈ x, Cell c) :
    Known Tryz.prog 20 [.agg (mapD [(0, x)]), .agg (key j)] (.tup [bif Nat.beq j 0 then .agg x else .agg (dFlat 0 (I 0) (S [])), Bo (Nat.beq j 0)]) := by
  have e : subL (pick x) (ur 0 13) = x := subL_at (pre := []) (post := []) (by simp) rfl hx
  have hz : ∀ σ, subL σ (dFlat 0 (I 0) (S [])) = dFlat 0 (I 0) (S []) := fun σ => by simp only [dFlat, subL_cons, subL_nil, sub_v]
  have := cx_use (fit_pick hc) (@e20ok) (List.all_eq_true.1 t_get j (List.mem_range.2 hj)) trivial
  simp only [subL_cons, subL_nil, sub_agg, sub_tup, sub_v, sub_mapD, List.map_cons, List.map_nil, subL_cells (key_cells j), e] at this
  cases hb : Nat.beq j 0 with
  | true => rw [hb] at this; simp only [cond_true, sub_agg, e] at this; exact this
  | false => rw [hb] at this; simp only [cond_false, sub_agg, hz] at this; exact this
theorem nearStep {A : Nat} (hA : A < 8) {d : Nat} (hd : d < 4) (ih : ∀ k, k ∈ reach A → Nr A d k) {k : Nat} (hk : k ∈ reach A) {nk : NK} (hnk : (nds A)[k]? = some nk)
    (hun : ∀ ks, nk = .un ks → ∀ k' ∈ ks, Nr A (d + 1) k') : Nr A (d + 1) k := by
  intro lp a hl
  have ht := List.all_eq_true.1 (u_near A hA d hd) k hk
  unfold okNear at ht
  rw [hnk] at ht
  simp only [Bool.and_eq_true] at ht
  obtain ⟨h1, h2⟩ := ht
  have hr := List.all_eq_true.1 (u_rOk A hA) k hk
  rw [hnk] at hr
  simp only [] at hr
  obtain ⟨x, a1, hx, kx⟩ := d_next (m := 8) (by omega) (by omega) lp a hl
  by_cases hx7 : x = 7
  · subst hx7
    obtain ⟨x0, a2, g0, k2⟩ := md2 hA lp a1 hl
    have f0 := g0.fact hA
    have e0 : subL (sg lp [a, a1, a2] (x0.d ++ [])) (D 0) = x0.d := sg_D0 (by simp) f0.dl
    have := run_use (@e5ok) h2 hl (a := a) (ps := [a1, a2]) (ds := x0.d ++ []) (by simpa using f0.dc) (a' := a2) rfl (ch_nx kx (ch_mk k2 e0 ch_nil)) trivial
    simp only [aD, sub_args, sub_agg, e0] at this
    exact ⟨x0, a2, g0.up (by omega), this⟩
  have hh := List.all_eq_true.1 h1 x (List.mem_range.2 (by omega))
  have leaf : ∀ {y : LF}, y ∈ leaves A → okRun CT 5 [T A, I k, I (d + 1)] [nx 8 x] [] (.agg (ld y)) = true → ∃ x a', GD A (d + 1 + 4) x ∧ KnownS Tryz.prog 5 33 [lp, I a] [T A, I k, I (d + 1)] (.agg x.d) [lp, I a'] := by
    intro y hy hh
    have := run_use (@e5ok) hh hl (a := a) (ps := [a1]) (ds := []) (by simp) (a' := a1) rfl (ch_nx kx ch_nil) trivial
    simp only [sub_args, sub_agg, sub_ld] at this
    exact ⟨lx A y, a1, .leaf hy, this⟩
  cases nk with
  | no =>
    obtain ⟨x0, a2, g0, k2⟩ := md2 hA lp a1 hl
    have f0 := g0.fact hA
    have e0 : subL (sg lp [a, a1, a2] (x0.d ++ [])) (D 0) = x0.d := sg_D0 (by simp) f0.dl
    have := run_use (@e5ok) hh hl (a := a) (ps := [a1, a2]) (ds := x0.d ++ []) (by simpa using f0.dc) (a' := a2) rfl (ch_nx kx (ch_mk k2 e0 ch_nil)) trivial
    simp only [aD, sub_args, sub_agg, e0] at this
    exact ⟨x0, a2, g0.up (by omega), this⟩
  | int => exact leaf (leaf_int (by decide)) hh
  | nil => exact leaf (nil_in A) hh
  | atom t => exact leaf (leaf_atom (of_decide_eq_true hr)) hh
  | fn ks =>
    simp only [okNode, Bool.and_eq_true] at hh
    obtain ⟨h01, hw⟩ := hh
    have hk' : k = fk A := Nat.eq_of_beq_eq_true hr
    subst hk'
    obtain ⟨y, a2, hy, k2⟩ := d_next (m := 3) (by omega) (by omega) lp a1 hl
    by_cases hy2 : y = 2
    · subst hy2
      obtain ⟨u, a3, hu, k3⟩ := d_next (m := 3) (by omega) (by omega) lp a2 hl
      obtain ⟨w, a4, hw2, k4⟩ := d_next (m := 2) (by omega) (by omega) lp a3 hl
      have hB : BookOk Tryz.prog (subB (sg lp [a, a1, a2, a3, a4] []) [(17, [([.agg (ld (.fn (far A) [109] 1 0)), Tk A (fk A), S (inns.getD u []), S (outs.getD w [])], .agg (ld (.nw A (inns.getD u []) (outs.getD w []))))])]) := by
        have hT : ∀ σ, sub σ (Tk A (fk A)) = Tk A (fk A) := fun σ => by
          show sub σ (.agg [nodes A, I (fk A)]) = _
          rw [sub_agg, subL_cons, subL_cons, subL_nil, sub_cell (nodes_cell A), sub_v]; rfl
        simp only [subB_cons, subB_nil, subP_cons, subP_nil, subL_cons, subL_nil, sub_agg, sub_v, sub_ld, hT]
        exact ⟨⟨c17 hu hw2 A hA, trivial⟩, trivial⟩
      have := run_use (@e5ok) (List.all_eq_true.1 (List.all_eq_true.1 hw u (List.mem_range.2 hu)) w (List.mem_range.2 hw2)) hl (a := a) (ps := [a1, a2, a3, a4]) (ds := []) (by simp) (a' := a4) rfl (ch_nx kx (ch_nx k2 (ch_nx k3 (ch_nx k4 ch_nil)))) hB
      simp only [sub_args, sub_agg, sub_ld] at this
      exact ⟨lx A (.nw A (inns.getD u []) (outs.getD w [])), a4, .leaf (leaf_nw hu hw2), this⟩
    · have := run_use (@e5ok) (List.all_eq_true.1 h01 y (by have : y = 0 ∨ y = 1 := by omega
                                                            rcases this with rfl | rfl <;> simp)) hl (a := a) (ps := [a1, a2]) (ds := []) (by simp) (a' := a2) rfl (ch_nx kx (ch_nx k2 ch_nil)) trivial
      simp only [sub_args, sub_agg, sub_ld] at this
      exact ⟨lx A (.fn (far A) [109] 1 0), a2, .leaf (leaf_fn (far_mem A hA)), this⟩
  | tup ks =>
    rcases ks with _ | ⟨k0, _ | ⟨k1, _ | ⟨k2, r⟩⟩⟩
    · simp [rOk] at hr
    · simp only [rOk, Bool.and_eq_true] at hr
      obtain ⟨x0, a2, g0, n0⟩ := ih k0 (isIn_mem hr.1) lp a1 hl
      have f0 := g0.fact hA
      have e0 : subL (sg lp [a, a1, a2] (x0.d ++ [])) (D 0) = x0.d := sg_D0 (by simp) f0.dl
      have := run_use (@e5ok) hh hl (a := a) (ps := [a1, a2]) (ds := x0.d ++ []) (by simpa using f0.dc) (a' := a2) rfl (ch_nx kx (ch_nr n0 e0 ch_nil)) trivial
      simp only [show (List.range [k0].length).map D = [D 0] from rfl, sub_args, sub_agg, sub_dComp0, subE_cons, subE_nil, e0] at this
      exact ⟨cx A (6, 1, []) [x0], a2, (GD.comp (by decide) rfl (by intro z hz; simp at hz; subst hz; exact g0) (by simp) : GD A (d + 4 + 1) _).up (by omega), this⟩
    · simp only [rOk, Bool.and_eq_true] at hr
      obtain ⟨x0, a2, g0, n0⟩ := ih k0 (isIn_mem hr.1) lp a1 hl
      obtain ⟨x1, a3, g1, n1⟩ := ih k1 (isIn_mem hr.2) lp a2 hl
      have f0 := g0.fact hA
      have f1 := g1.fact hA
      have e0 : subL (sg lp [a, a1, a2, a3] (x0.d ++ (x1.d ++ []))) (D 0) = x0.d := sg_D0 (by simp) f0.dl
      have e1 : subL (sg lp [a, a1, a2, a3] (x0.d ++ (x1.d ++ []))) (D 1) = x1.d := sg_D1 (by simp) f0.dl f1.dl
      have := run_use (@e5ok) hh hl (a := a) (ps := [a1, a2, a3]) (ds := x0.d ++ (x1.d ++ [])) (cells_app f0.dc (by simpa using f1.dc)) (a' := a3) rfl (ch_nx kx (ch_nr n0 e0 (ch_nr n1 e1 ch_nil))) trivial
      simp only [show (List.range [k0, k1].length).map D = [D 0, D 1] from rfl, sub_args, sub_agg, sub_dComp0, subE_cons, subE_nil, e0, e1] at this
      exact ⟨cx A (6, 2, []) [x0, x1], a3, (GD.comp (by decide) rfl (by intro z hz; simp at hz; rcases hz with rfl | rfl; exact g0; exact g1) (by simp) : GD A (d + 4 + 1) _).up (by omega), this⟩
    · simp [rOk] at hr
  | cons kh kt =>
    simp only [rOk, Bool.and_eq_true] at hr
    obtain ⟨x0, a2, g0, n0⟩ := ih kh (isIn_mem hr.1) lp a1 hl
    obtain ⟨x1, a3, g1, n1⟩ := ih kt (isIn_mem hr.2) lp a2 hl
    have f0 := g0.fact hA
    have f1 := g1.fact hA
    obtain ⟨κ, r, r', hκ, hd1, hv1⟩ := g1.kind
    have e0 : subL (sg lp [a, a1, a2, a3] (x0.d ++ (x1.d ++ []))) (D 0) = x0.d := sg_D0 (by simp) f0.dl
    have e1 : subL (sg lp [a, a1, a2, a3] (x0.d ++ (x1.d ++ []))) (tl κ (D 1)) = x1.d := by
      have := sg_D1 (lp := lp) (ps := [a, a1, a2, a3]) (d := x0.d) (e := x1.d) (post := []) (by simp) f0.dl f1.dl
      rw [hd1] at this ⊢
      exact sub_tl this
    have hhk := List.all_eq_true.1 hh κ (List.mem_range.2 hκ)
    have hn13 : ∀ σ, subL σ nil13 = nil13 := fun σ => sub_ld σ .nil
    have := run_use (@e5ok) hhk hl (a := a) (ps := [a1, a2, a3]) (ds := x0.d ++ (x1.d ++ [])) (cells_app f0.dc (by simpa using f1.dc)) (a' := a3) rfl (ch_nx kx (ch_nr n0 e0 (ch_gen n1 (sub_args _ _ _ _) (by rw [sub_agg, e1]) ch_nil))) trivial
    by_cases h57 : κ = 5 ∨ κ = 7
    · have hb : (Nat.beq κ 5 || Nat.beq κ 7) = true := by rcases h57 with rfl | rfl <;> rfl
      rw [hb] at this
      simp only [cond_true, sub_args, sub_agg, sub_dComp0, subE_cons, subE_nil, e0, e1] at this
      obtain ⟨z, gz, dz, _⟩ := g0.cons g1 h57 hv1
      rw [← dz] at this
      exact ⟨z, a3, gz.up (by omega), this⟩
    · have hb : (Nat.beq κ 5 || Nat.beq κ 7) = false := by
        rw [Bool.eq_false_iff]
        intro e
        rw [Bool.or_eq_true] at e
        rcases e with e | e
        · exact h57 (.inl (Nat.eq_of_beq_eq_true e))
        · exact h57 (.inr (Nat.eq_of_beq_eq_true e))
      rw [hb] at this
      simp only [cond_false, sub_args, sub_agg, sub_dComp0, subE_cons, subE_nil, e0, hn13] at this
      obtain ⟨z0, gz, dz, q, vz⟩ := GD.nil A (d + 4)
      obtain ⟨z, gz1, dz1, _⟩ := g0.cons gz (.inl rfl) vz
      rw [← dz, ← dz1] at this
      exact ⟨z, a3, gz1.up (by omega), this⟩
  | map f r0 r1 =>
    simp only [rOk, Bool.and_eq_true] at hr
    simp only [okNode, Bool.and_eq_true] at hh
    obtain ⟨q1, q2, q3⟩ := hh
    obtain ⟨x0, a2, g0, n0⟩ := ih f (isIn_mem hr.1) lp a1 hl
    obtain ⟨y, a3, hy, k3⟩ := d_next (m := 2) (by omega) (by omega) lp a2 hl
    have f0 := g0.fact hA
    obtain ⟨z1, gz1, dz1⟩ := g0.map1 (j := 0) (by omega)
    have hy : y = 0 ∨ y = 1 := by omega
    rcases hy with rfl | rfl
    · have e0 : subL (sg lp [a, a1, a2, a3] (x0.d ++ [])) (D 0) = x0.d := sg_D0 (by simp) f0.dl
      have hB : BookOk Tryz.prog (subB (sg lp [a, a1, a2, a3] (x0.d ++ [])) [(18, [putE [] 0 (D 0)])]) := by
        simp only [putE, subB_cons, subB_nil, subP_cons, subP_nil, subL_cons, subL_nil, sub_agg, sub_tup, sub_v, sub_mapD, sub_ins, List.map_nil, subL_cells (key_cells 0), e0]
        exact ⟨⟨put_use (by omega) f0.dl f0.dc (.inl rfl), trivial⟩, trivial⟩
      have := run_use (@e5ok) q1 hl (a := a) (ps := [a1, a2, a3]) (ds := x0.d ++ []) (by simpa using f0.dc) (a' := a3) rfl (ch_nx kx (ch_nr n0 e0 (ch_nx k3 ch_nil))) hB
      simp only [List.map_cons, List.map_nil, sub_args, sub_agg, sub_mapD, e0] at this
      rw [← dz1] at this
      exact ⟨z1, a3, gz1.up (by omega), this⟩
    · obtain ⟨j, a4, hj, k4⟩ := d_key lp a3 hl
      cases j with
      | zero =>
        have e0 : subL (sg lp [a, a1, a2, a3, a4] (x0.d ++ [])) (D 0) = x0.d := sg_D0 (by simp) f0.dl
        have hB : BookOk Tryz.prog (subB (sg lp [a, a1, a2, a3, a4] (x0.d ++ [])) [(18, [putE [] 0 (D 0)]), (20, [okNode.getE 0])]) := by
          simp only [putE, okNode.getE, aD, subB_cons, subB_nil, subP_cons, subP_nil, subL_cons, subL_nil, sub_agg, sub_tup, sub_v, sub_mapD, sub_ins, List.map_cons, List.map_nil, subL_cells (key_cells 0), e0, Nat.beq_refl, cond_true]
          exact ⟨⟨put_use (by omega) f0.dl f0.dc (.inl rfl), trivial⟩, ⟨get_use (j := 0) (by omega) f0.dl f0.dc, trivial⟩, trivial⟩
        have := run_use (@e5ok) q2 hl (a := a) (ps := [a1, a2, a3, a4]) (ds := x0.d ++ []) (by simpa using f0.dc) (a' := a4) rfl (ch_nx kx (ch_nr n0 e0 (ch_nx k3 (ch_key k4 ch_nil)))) hB
        simp only [List.map_cons, List.map_nil, sub_args, sub_agg, sub_mapD, e0] at this
        rw [← dz1] at this
        exact ⟨z1, a4, gz1.up (by omega), this⟩
      | succ j =>
        have hrest : (bif Nat.blt (j + 1) 4 then r0 else r1) ∈ reach A := by
          cases Nat.blt (j + 1) 4
          · exact isIn_mem hr.2.2
          · exact isIn_mem hr.2.1
        obtain ⟨x1, a5, g1, n1⟩ := ih _ hrest lp a4 hl
        have f1 := g1.fact hA
        have e0 : subL (sg lp [a, a1, a2, a3, a4, a5] (x0.d ++ (x1.d ++ []))) (D 0) = x0.d := sg_D0 (by simp) f0.dl
        have e1 : subL (sg lp [a, a1, a2, a3, a4, a5] (x0.d ++ (x1.d ++ []))) (D 1) = x1.d := sg_D1 (by simp) f0.dl f1.dl
        have hz : ∀ σ, subL σ (dFlat 0 (I 0) (S [])) = dFlat 0 (I 0) (S []) := fun σ => by simp only [dFlat, subL_cons, subL_nil, sub_v]
        have hget := get_use (j := j + 1) hj f0.dl f0.dc
        have hB : BookOk Tryz.prog (subB (sg lp [a, a1, a2, a3, a4, a5] (x0.d ++ (x1.d ++ []))) [(18, [putE [] 0 (D 0), putE [(0, D 0)] (j + 1) (D 1)]), (20, [okNode.getE (j + 1)])]) := by
          simp only [putE, okNode.getE, aD, show Nat.beq (j + 1) 0 = false from rfl, cond_false, subB_cons, subB_nil, subP_cons, subP_nil, subL_cons, subL_nil, sub_agg, sub_tup, sub_v, sub_mapD, sub_ins, List.map_cons, List.map_nil, subL_cells (key_cells 0), subL_cells (key_cells (j + 1)), e0, e1, hz]
          exact ⟨⟨put_use (by omega) f0.dl f0.dc (.inl rfl), put_use hj f1.dl f1.dc (.inr ⟨0, x0.d, by omega, f0.dl, f0.dc, rfl⟩), trivial⟩, ⟨hget, trivial⟩, trivial⟩
        have := run_use (@e5ok) (List.all_eq_true.1 q3 j (List.mem_range.2 (by omega))) hl (a := a) (ps := [a1, a2, a3, a4, a5]) (ds := x0.d ++ (x1.d ++ [])) (cells_app f0.dc (by simpa using f1.dc)) (a' := a5) rfl (ch_nx kx (ch_nr n0 e0 (ch_nx k3 (ch_key k4 (ch_nr n1 e1 ch_nil))))) hB
        simp only [List.map_cons, List.map_nil, sub_args, sub_agg, sub_mapD, e0, e1] at this
        obtain ⟨z, gz, dz⟩ := g0.map2 (j := 0) (k := j + 1) (by omega) hj g1
        rw [show ins (j + 1) x1.d [(0, x0.d)] = [(0, x0.d), (j + 1, x1.d)] from rfl] at dz
        rw [← dz] at this
        exact ⟨z, a5, gz.up (by omega), this⟩
  | un ks =>
    obtain ⟨y, a2, hy, k2⟩ := d_next (m := ks.length) (by
      cases ks with
      | nil =>
        have hne : ∀ A, A < 8 → ((nds A).all fun nk => match nk with | .un [] => false | _ => true) = true := eight rfl rfl rfl rfl rfl rfl rfl rfl
        have := List.all_eq_true.1 (hne A hA) _ (List.mem_of_getElem? hnk)
        simp at this
      | cons _ _ => simp) (by
        have hle : ∀ A, A < 8 → ((nds A).all fun nk => match nk with | .un ks => Nat.ble ks.length 9 | _ => true) = true := eight rfl rfl rfl rfl rfl rfl rfl rfl
        have := List.all_eq_true.1 (hle A hA) _ (List.mem_of_getElem? hnk)
        simp only [] at this
        have := Nat.le_of_ble_eq_true this
        omega) lp a1 hl
    have hky : ks[y]? = some ks[y] := List.getElem?_eq_getElem hy
    obtain ⟨x0, a3, g0, n0⟩ := hun ks rfl ks[y] (List.getElem_mem hy) lp a2 hl
    have f0 := g0.fact hA
    have e0 : subL (sg lp [a, a1, a2, a3] (x0.d ++ [])) (D 0) = x0.d := sg_D0 (by simp) f0.dl
    have hh' := allIx_at0 hh y _ hky
    have := run_use (@e5ok) hh' hl (a := a) (ps := [a1, a2, a3]) (ds := x0.d ++ []) (by simpa using f0.dc) (a' := a3) rfl (ch_nx kx (ch_nx k2 (ch_nr n0 e0 ch_nil))) trivial
    simp only [aD, sub_args, sub_agg, e0] at this
    exact ⟨x0, a3, g0, this⟩
theorem near_ok {A : Nat} (hA : A < 8) : ∀ d, d ≤ 4 → ∀ k, k ∈ reach A → Nr A d k := by
  intro d
  induction d with
  | zero => exact fun _ k hk => near0 hA hk
  | succ d ih =>
    intro hd k hk
    have ih := ih (by omega)
    have hrk := List.all_eq_true.1 (u_rOk A hA) k hk
    cases hn : (nds A)[k]? with
    | none => rw [hn] at hrk; cases hrk
    | some nk =>
      rw [hn] at hrk
      simp only [] at hrk
      refine nearStep hA (by omega) ih hk hn ?_
      intro ks e k' hk'
      subst e
      simp only [rOk, List.all_eq_true] at hrk
      have h1 := hrk k' hk'
      simp only [Bool.and_eq_true] at h1
      cases hn' : (nds A)[k']? with
      | none => rw [hn'] at h1; simp at h1
      | some nk' =>
        rw [hn'] at h1
        simp only [Bool.not_eq_true'] at h1
        refine nearStep hA (by omega) ih (isIn_mem h1.1) hn' ?_
        intro ks' e' _ _
        rw [e'] at h1
        simp [isUn] at h1
/-- near, at the root -/
theorem near_root {A : Nat} (hA : A < 8) {lp : PV} (hl : SrcL lp) (a : Nat) : ∃ x a', GD A 8 x ∧ KnownS Tryz.prog 5 33 [lp, I a] [T A, I (rt A), I 4] (.agg x.d) [lp, I a'] := near_ok hA 4 (by omega) _ (root_in A hA) lp a hl
end
end Go.Ev.B
