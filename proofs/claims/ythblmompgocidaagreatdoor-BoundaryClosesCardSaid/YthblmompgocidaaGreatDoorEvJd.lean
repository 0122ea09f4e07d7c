/- Whatever is made and passes: wrapped, it is not loose. -/
import Derived.Test.YthblmompgocidaaGreatDoorEvJc
set_option linter.all false
namespace Go.Ev.B
open Go.Proofs
section
variable [E : Env]
theorem fk_at : ∀ a, a < 8 → ∃ ks, (nds a)[fk a]? = some (.fn ks) ∧ ks.length = far a + 1 := eight ⟨_, rfl, rfl⟩ ⟨_, rfl, rfl⟩ ⟨_, rfl, rfl⟩ ⟨_, rfl, rfl⟩ ⟨_, rfl, rfl⟩ ⟨_, rfl, rfl⟩ ⟨_, rfl, rfl⟩ ⟨_, rfl, rfl⟩
theorem top_fn {a : Nat} (ha : a < 8) {n : Nat} {x : X} (h : GD a n x) (hb : x.b (fk a) = true) : Known Tryz.prog 56 [W a, .agg x.d, I (fk a)] (.agg (wrd a x.d)) ∧ Known Tryz.prog 8 (.agg (wrd a x.d) :: pq) (Bo false) := by
  obtain ⟨ks, hk, hl⟩ := fk_at a ha
  obtain ⟨y, hy, rfl, ar, h1, h2⟩ := h.fn hk hb
  have : ar = far a := by omega
  subst this
  exact fn_fact ha hy h1
theorem loose_two {s : Nat × Nat × List Nat} (hs : s ∈ shapes) {k0 k1 : List PV} (hn : s.2.1 = 2) (h0 : k0.length = 13) (h1 : k1.length = 13) (c0 : ∀ c ∈ k0, Cell c) (c1 : ∀ c ∈ k1, Cell c)
    (g0 : Known Tryz.prog 8 (.agg k0 :: pq) (Bo false)) (g1 : Known Tryz.prog 8 (.agg k1 :: pq) (Bo false)) : Known Tryz.prog 8 (.agg (dComp s.1 [k0, k1] (keysOf s.2.2)) :: pq) (Bo false) ∧ ∀ c ∈ dComp s.1 [k0, k1] (keysOf s.2.2), Cell c := by
  have := loose_comp hs (ks := [k0, k1]) (bs := [false, false]) hn.symm (by intro k hk; simp at hk; rcases hk with rfl | rfl <;> assumption) (by intro k hk; simp at hk; rcases hk with rfl | rfl <;> assumption) hn.symm (by
    intro i k b hk hb
    match i with
    | 0 => simp at hk hb; subst hk; subst hb; exact g0
    | 1 => simp at hk hb; subst hk; subst hb; exact g1
    | i + 2 => simp at hk)
  exact ⟨this, dComp_cells (by intro e he; simp only [List.mem_cons, List.not_mem_nil, or_false] at he; rcases he with rfl | rfl <;> assumption)⟩
theorem loose_one {s : Nat × Nat × List Nat} (hs : s ∈ shapes) {k0 : List PV} (hn : s.2.1 = 1) (h0 : k0.length = 13) (c0 : ∀ c ∈ k0, Cell c)
    (g0 : Known Tryz.prog 8 (.agg k0 :: pq) (Bo false)) : Known Tryz.prog 8 (.agg (dComp s.1 [k0] (keysOf s.2.2)) :: pq) (Bo false) ∧ ∀ c ∈ dComp s.1 [k0] (keysOf s.2.2), Cell c := by
  have := loose_comp hs (ks := [k0]) (bs := [false]) hn.symm (by intro k hk; simp at hk; subst hk; assumption) (by intro k hk; simp at hk; subst hk; assumption) hn.symm (by
    intro i k b hk hb
    match i with
    | 0 => simp at hk hb; subst hk; subst hb; exact g0
    | i + 1 => simp at hk)
  exact ⟨this, dComp_cells (by intro e he; simp only [List.mem_cons, List.not_mem_nil, or_false] at he; subst he; assumption)⟩
theorem two_of {xs : List X} (h : xs.length = 2) : ∃ x y, xs = [x, y] := by
  rcases xs with _ | ⟨x, _ | ⟨y, _ | ⟨z, r⟩⟩⟩ <;> simp at h
  exact ⟨x, y, rfl⟩
theorem one_of {xs : List X} (h : xs.length = 1) : ∃ x, xs = [x] := by
  rcases xs with _ | ⟨x, _ | ⟨y, r⟩⟩ <;> simp at h
  exact ⟨x, rfl⟩
/-! ### lists of functions -/
theorem sub_vList (σ : Nat → PV) : ∀ (us : List (List PV)), subL σ (vList us) = vList (subE σ us)
  | [] => by simp only [vList, subE_nil]; exact sub_lv σ .nil
  | u :: us => by
    show subL σ (vComp 7 [u, vList us] (keysOf [])) = _
    rw [sub_vComp, subE_cons, subE_cons, subE_nil, sub_vList σ us, subE_cons]; rfl
theorem sub_dList (σ : Nat → PV) : ∀ (us : List (List PV)), subL σ (dList us) = dList (subE σ us)
  | [] => by simp only [dList, subE_nil]; exact sub_ld σ .nil
  | u :: us => by
    show subL σ (dComp 7 [u, dList us] (keysOf [])) = _
    rw [sub_dComp, subE_cons, subE_cons, subE_nil, sub_dList σ us, subE_cons]; rfl
theorem subP_moL (σ : Nat → PV) : ∀ (us : List (List PV)), subP σ (moL us) = moL (subE σ us)
  | [] => by simp only [moL, subP_moPg, sub_agg, sub_vList, subE_nil]
  | u :: us => by simp only [moL, subP_append, subP_moPg, sub_agg, sub_vList, subP_moL σ us, subE_cons]
theorem lists : ∀ (n : Nat) (x : X), GD 3 n x → x.b 5 = true → ∃ xs : List X, xs.length ≤ n ∧ x.d = dList (xs.map X.d) ∧ x.v = vList (xs.map X.v) ∧ (∀ y ∈ xs, ∃ m, GD 3 m y ∧ y.b 2 = true) ∧ PageOk Tryz.prog 54 (moL (xs.map X.v)) := by
  intro n
  induction n with
  | zero =>
    intro x h hb
    have f := h.fact (by omega)
    by_cases h3 : x.b 3 = true
    · obtain ⟨_, y, rfl, hy⟩ := h.flat (k := 3) (nk := .nil) rfl (.inr (.inl rfl)) h3
      have : y = .nil := by cases y <;> simp [lhas] at hy; rfl
      subst this
      have := f.memOf (by omega) (k := 3) (nk := .nil) rfl
      rw [h3] at this
      exact ⟨[], Nat.le_refl _, rfl, rfl, by simp, ⟨this, trivial⟩⟩
    · rw [h.b_un (by omega) (k := 5) (ks := [3, 4]) rfl] at hb
      simp [h3] at hb
      obtain ⟨m, s, xs, ks, h0, _⟩ := h.kids (k := 4) (nk := .cons 2 5) rfl rfl (fun y => rfl) hb
      omega
  | succ n ih =>
    intro x h hb
    have f := h.fact (by omega)
    by_cases h3 : x.b 3 = true
    · obtain ⟨_, y, rfl, hy⟩ := h.flat (k := 3) (nk := .nil) rfl (.inr (.inl rfl)) h3
      have : y = .nil := by cases y <;> simp [lhas] at hy; rfl
      subst this
      have := f.memOf (by omega) (k := 3) (nk := .nil) rfl
      rw [h3] at this
      exact ⟨[], Nat.zero_le _, rfl, rfl, by simp, ⟨this, trivial⟩⟩
    · rw [h.b_un (by omega) (k := 5) (ks := [3, 4]) rfl] at hb
      simp [h3] at hb
      have hb4 := hb
      obtain ⟨m, s, xs, ks, h0, hs, rfl, hl, hg, hkn, hall⟩ := h.kids (k := 4) (nk := .cons 2 5) rfl rfl (fun y => rfl) hb
      simp only [kidNodes] at hkn
      obtain ⟨hbb, rfl⟩ := bif_some hkn
      have := shapes7 s hs (Nat.eq_of_beq_eq_true hbb)
      subst this
      obtain ⟨x0, x1, rfl⟩ := two_of hl
      have hm : m = n := by omega
      subst hm
      have g0 := hall 0 x0 2 rfl rfl
      have g1 := hall 1 x1 5 rfl rfl
      obtain ⟨l, l1, l2, l3, l4, l5⟩ := ih x1 (hg x1 (by simp)) g1
      have m3 := f.memOf (by omega) (k := 3) (nk := .nil) rfl
      have m4 := f.memOf (by omega) (k := 4) (nk := .cons 2 5) rfl
      rw [hb4] at m4
      have h3' : (cx 3 (7, 2, []) [x0, x1]).b 3 = false := by simpa using h3
      rw [h3'] at m3
      have ev : (cx 3 (7, 2, []) [x0, x1]).v = vList ((x0 :: l).map X.v) := by
        show vComp 7 [x0.v, x1.v] [] = vComp 7 [x0.v, vList (l.map X.v)] []
        rw [l3]
      have ed : (cx 3 (7, 2, []) [x0, x1]).d = dList ((x0 :: l).map X.d) := by
        show dComp 7 [x0.d, x1.d] [] = dComp 7 [x0.d, dList (l.map X.d)] []
        rw [l2]
      rw [ev] at m3 m4
      refine ⟨x0 :: l, by simp; omega, ed, ev, ?_, m3, m4, l5⟩
      intro y hy
      rcases List.mem_cons.1 hy with rfl | hy
      · exact ⟨_, hg y (by simp), g0⟩
      · exact l4 y hy
theorem nil_in (a : Nat) : LF.nil ∈ leaves a := by simp [leaves]
theorem nil_loose : Known Tryz.prog 8 (.agg nil13 :: pq) (Bo false) := (fact_leaf (a := 3) (by omega) (nil_in 3)).ls
theorem dList_ok : ∀ {ks : List (List PV)}, Len 13 ks → (∀ e ∈ ks, ∀ c ∈ e, Cell c) → (∀ k ∈ ks, Known Tryz.prog 8 (.agg k :: pq) (Bo false)) → (dList ks).length = 13 ∧ (∀ c ∈ dList ks, Cell c) ∧ Known Tryz.prog 8 (.agg (dList ks) :: pq) (Bo false)
  | [], _, _, _ => ⟨rfl, (ld_cells .nil).1, nil_loose⟩
  | k :: ks, h1, h2, h3 => by
    obtain ⟨g1, g2, g3⟩ := dList_ok (ks := ks) (fun x hx => h1 x (by simp [hx])) (fun x hx => h2 x (by simp [hx])) (fun x hx => h3 x (by simp [hx]))
    have hc : ∀ e ∈ [k, dList ks], ∀ c ∈ e, Cell c := by
      intro e he
      simp only [List.mem_cons, List.not_mem_nil, or_false] at he
      rcases he with rfl | rfl
      · exact h2 _ (by simp)
      · exact g2
    exact ⟨rfl, dComp_cells (l := []) hc, (loose_two (s := (7, 2, [])) (by decide) rfl (h1 k (by simp)) g1 (h2 k (by simp)) g2 (h3 k (by simp)) g3).1⟩
theorem top_list {n : Nat} {x : X} (h : GD 3 n x) (hn : n ≤ 8) (hb : x.b 5 = true) : ∃ w, Known Tryz.prog 6 ([.agg x.d, T 3] ++ pq) (.agg w) ∧ (Known Tryz.prog 8 (.agg w :: pq) (Bo false) ∧ ∀ c ∈ w, Cell c) ∧ w.length = 13 := by
  have f := h.fact (by omega)
  obtain ⟨xs, l1, l2, l3, l4, l5⟩ := lists n x h hb
  have hf : ∀ y ∈ xs, Fact 3 y := fun y hy => by obtain ⟨m, g, _⟩ := l4 y hy; exact g.fact (by omega)
  obtain ⟨e0, e1, e2, e3⟩ := fill_ok hf
  have hp := List.all_eq_true.1 pL xs.length (List.mem_range.2 (by omega))
  unfold okPL at hp
  have hv := f.mem (by omega)
  rw [show x.b (rt 3) = true from hb, l3] at hv
  have := cw_use (fit_pick e0) (@e6ok) hp (skP_ok (by omega) hf (fun i y hy _ => by
      obtain ⟨m, g, g2⟩ := l4 y (List.mem_of_getElem? hy)
      exact (top_fn (by omega) g g2).1) (by rw [sub_vList, e2]; exact hv) (by rw [subP_moL, e2]; exact l5))
  simp only [pq, List.cons_append, List.nil_append, subL_cons, subL_nil, sub_agg, sub_v, sub_T, sub_dList, e1, e3] at this
  rw [l2]
  have hloose : ∀ k ∈ xs.map (fun x => wrd 3 x.d), Known Tryz.prog 8 (.agg k :: pq) (Bo false) := ?_
  have hdl := dList_ok (map_len fun y _ => rfl) (map_cells fun y hy => wrd_cells (hf y hy).dc) hloose
  exact ⟨_, this, ⟨hdl.2.2, hdl.2.1⟩, hdl.1⟩
  intro k hk
  obtain ⟨y, hy, rfl⟩ := List.mem_map.1 hk
  obtain ⟨m, g, g2⟩ := l4 y hy
  exact (top_fn (by omega) g g2).2
theorem map_shapes : (shapes.all fun s => !Nat.beq s.1 8 || (match s.2.2 with
  | 0 :: r => (match r with
    | [] => Nat.beq s.2.1 1
    | [_ + 1] => Nat.beq s.2.1 2
    | _ => false)
  | _ => true)) = true := by decide
theorem wrU {a : Nat} (ha : a < 8) {n : Nat} {x : X} (h : GD a n x) (hb : x.b (rt a) = true) {mo : List (Nat × Bool)} {rep : Bool} (hp : okPU CW a mo rep = true) (h1 : rep = true → x.b (fk a) = true) (h2 : rep = false → x.l = false)
    (hmo : ∀ m ∈ mo, x.b m.1 = m.2 ∧ ∃ nk, (nds a)[m.1]? = some nk) : ∃ w, Known Tryz.prog 6 ([.agg x.d, T a] ++ pq) (.agg w) ∧ (Known Tryz.prog 8 (.agg w :: pq) (Bo false) ∧ ∀ c ∈ w, Cell c) ∧ w.length = 13 := by
  have f := h.fact ha
  refine ⟨_, skU_use ha hp f (fun hr => (top_fn ha h (h1 hr)).1) hb hmo, ?_, by cases rep; exact f.dl; rfl⟩
  cases rep
  · have := f.ls
    rw [h2 rfl] at this
    exact ⟨this, f.dc⟩
  · exact ⟨(top_fn ha h (h1 rfl)).2, wrd_cells f.dc⟩
theorem wr0 {n : Nat} {x : X} (h : GD 0 n x) (hn : n ≤ 8) (hb : x.b (rt 0) = true) : ∃ w, Known Tryz.prog 6 ([.agg x.d, T 0] ++ pq) (.agg w) ∧ (Known Tryz.prog 8 (.agg w :: pq) (Bo false) ∧ ∀ c ∈ w, Cell c) ∧ w.length = 13 := by
    have f := h.fact (by omega)
    exact wrU (a := 0) (by omega) h hb p0 (fun _ => hb) (fun e => by cases e) (by simp)
theorem wr7 {n : Nat} {x : X} (h : GD 7 n x) (hn : n ≤ 8) (hb : x.b (rt 7) = true) : ∃ w, Known Tryz.prog 6 ([.agg x.d, T 7] ++ pq) (.agg w) ∧ (Known Tryz.prog 8 (.agg w :: pq) (Bo false) ∧ ∀ c ∈ w, Cell c) ∧ w.length = 13 := by
    have f := h.fact (by omega)
    exact wrU (a := 7) (by omega) h hb p7 (fun _ => hb) (fun e => by cases e) (by simp)
theorem wr1 {n : Nat} {x : X} (h : GD 1 n x) (hn : n ≤ 8) (hb : x.b (rt 1) = true) : ∃ w, Known Tryz.prog 6 ([.agg x.d, T 1] ++ pq) (.agg w) ∧ (Known Tryz.prog 8 (.agg w :: pq) (Bo false) ∧ ∀ c ∈ w, Cell c) ∧ w.length = 13 := by
    have f := h.fact (by omega)
    obtain ⟨m, xs, rfl, hl, hg, hall⟩ := h.tup (k := 4) (ks := [2, 3]) rfl hb
    obtain ⟨x0, x1, rfl⟩ := two_of hl
    have g0 := hall 0 x0 2 rfl rfl
    have g1 := hall 1 x1 3 rfl rfl
    have d0 := hg x0 (by simp)
    have d1 := hg x1 (by simp)
    have hf : ∀ y ∈ [x0, x1], Fact 1 y := fun y hy => (hg y hy).fact (by omega)
    have hv := f.mem (by omega)
    rw [hb] at hv
    have := sk_use (a := 1) (by omega) p1 rfl hf (fun i y hy hr => by
      match i with
      | 0 => simp at hy; subst hy; exact (top_fn (by omega) d0 g0).1
      | 1 => simp at hr
      | i + 2 => simp at hy) hv (by simp)
    refine ⟨_, this, ?_, rfl⟩
    have l1 := (hf x1 (by simp)).ls
    rw [(d1.flat (k := 3) (nk := .int) rfl (.inl rfl) g1).1] at l1
    exact loose_two (s := (6, 2, [])) (by decide) rfl rfl (hf x1 (by simp)).dl (wrd_cells (hf x0 (by simp)).dc) (hf x1 (by simp)).dc (top_fn (by omega) d0 g0).2 l1
theorem wr2 {n : Nat} {x : X} (h : GD 2 n x) (hn : n ≤ 8) (hb : x.b (rt 2) = true) : ∃ w, Known Tryz.prog 6 ([.agg x.d, T 2] ++ pq) (.agg w) ∧ (Known Tryz.prog 8 (.agg w :: pq) (Bo false) ∧ ∀ c ∈ w, Cell c) ∧ w.length = 13 := by
    have f := h.fact (by omega)
    rw [h.b_un (by omega) (k := rt 2) (ks := [4, 7]) rfl] at hb
    by_cases h4 : x.b 4 = true
    · have hr : x.b (rt 2) = true := by rw [h.b_un (by omega) (k := rt 2) (ks := [4, 7]) rfl]; exact hb
      obtain ⟨m, xs, rfl, hl, hg, hall⟩ := h.tup (k := 4) (ks := [0, 3]) rfl h4
      obtain ⟨x0, x1, rfl⟩ := two_of hl
      have g0 := hall 0 x0 0 rfl rfl
      have g1 := hall 1 x1 3 rfl rfl
      have d0 := hg x0 (by simp)
      have d1 := hg x1 (by simp)
      have hf : ∀ y ∈ [x0, x1], Fact 2 y := fun y hy => (hg y hy).fact (by omega)
      have hv := f.mem (by omega)
      rw [hr] at hv
      have m4 := f.memOf (by omega) (k := 4) (nk := .tup [0, 3]) rfl
      rw [h4] at m4
      have := sk_use (a := 2) (by omega) p2a rfl hf (fun i y hy hr => by
        match i with
        | 0 => simp at hr
        | 1 => simp at hy; subst hy; exact (top_fn (by omega) d1 g1).1
        | i + 2 => simp at hy) hv (by intro m hm; simp at hm; subst hm; exact m4)
      refine ⟨_, this, ?_, rfl⟩
      have l0 := (hf x0 (by simp)).ls
      rw [(d0.flat (k := 0) (nk := .atom [97]) rfl (.inr (.inr ⟨_, rfl⟩)) g0).1] at l0
      exact loose_two (s := (6, 2, [])) (by decide) rfl (hf x0 (by simp)).dl rfl (hf x0 (by simp)).dc (wrd_cells (hf x1 (by simp)).dc) l0 (top_fn (by omega) d1 g1).2
    · have h7 : x.b 7 = true := by simpa [h4] using hb
      have hr : x.b (rt 2) = true := by rw [h.b_un (by omega) (k := rt 2) (ks := [4, 7]) rfl]; exact hb
      have h4 : x.b 4 = false := by simpa using h4
      obtain ⟨m, xs, rfl, hl, hg, hall⟩ := h.tup (k := 7) (ks := [5, 6]) rfl h7
      obtain ⟨x0, x1, rfl⟩ := two_of hl
      have g0 := hall 0 x0 5 rfl rfl
      have g1 := hall 1 x1 6 rfl rfl
      have d0 := hg x0 (by simp)
      have d1 := hg x1 (by simp)
      have hf : ∀ y ∈ [x0, x1], Fact 2 y := fun y hy => (hg y hy).fact (by omega)
      have hv := f.mem (by omega)
      rw [hr] at hv
      have m4 := f.memOf (by omega) (k := 4) (nk := .tup [0, 3]) rfl
      have m7 := f.memOf (by omega) (k := 7) (nk := .tup [5, 6]) rfl
      rw [h4] at m4
      rw [h7] at m7
      have := sk_use (a := 2) (by omega) p2b rfl hf (fun i y hy hr => by
        match i with
        | 0 => simp at hr
        | 1 => simp at hr
        | i + 2 => simp at hy) hv (by intro m hm; simp at hm; rcases hm with rfl | rfl; exact m4; exact m7)
      refine ⟨_, this, ?_, rfl⟩
      have l0 := (hf x0 (by simp)).ls
      have l1 := (hf x1 (by simp)).ls
      rw [(d0.flat (k := 5) (nk := .atom [111, 107]) rfl (.inr (.inr ⟨_, rfl⟩)) g0).1] at l0
      rw [(d1.flat (k := 6) (nk := .int) rfl (.inl rfl) g1).1] at l1
      exact loose_two (s := (6, 2, [])) (by decide) rfl (hf x0 (by simp)).dl (hf x1 (by simp)).dl (hf x0 (by simp)).dc (hf x1 (by simp)).dc l0 l1
theorem wr3 {n : Nat} {x : X} (h : GD 3 n x) (hn : n ≤ 8) (hb : x.b (rt 3) = true) : ∃ w, Known Tryz.prog 6 ([.agg x.d, T 3] ++ pq) (.agg w) ∧ (Known Tryz.prog 8 (.agg w :: pq) (Bo false) ∧ ∀ c ∈ w, Cell c) ∧ w.length = 13 := by
    have f := h.fact (by omega)
    exact top_list h hn hb
theorem wr4 {n : Nat} {x : X} (h : GD 4 n x) (hn : n ≤ 8) (hb : x.b (rt 4) = true) : ∃ w, Known Tryz.prog 6 ([.agg x.d, T 4] ++ pq) (.agg w) ∧ (Known Tryz.prog 8 (.agg w :: pq) (Bo false) ∧ ∀ c ∈ w, Cell c) ∧ w.length = 13 := by
    have f := h.fact (by omega)
    obtain ⟨m, s, xs, ks, rfl, hs, rfl, hl, hg, hkn, hall⟩ := h.kids (k := 5) (nk := .map 2 3 4) rfl rfl (fun y => rfl) hb
    simp only [kidNodes] at hkn
    obtain ⟨hbb, rfl⟩ := bif_some hkn
    simp only [Bool.and_eq_true] at hbb
    have hsh := List.all_eq_true.1 map_shapes s hs
    simp only [hbb.1, Bool.not_true, Bool.false_or] at hsh
    obtain ⟨s1, s2, s3⟩ := s
    have hs1 := Nat.eq_of_beq_eq_true hbb.1
    simp only at hs1 hsh hl hall hbb
    subst hs1
    rcases s3 with _ | ⟨k0, r⟩
    · simp at hbb
    cases k0 with
    | succ k0 => simp at hbb
    | zero =>
      rcases r with _ | ⟨k1, _ | ⟨k2, r⟩⟩
      · simp only [] at hsh
        have := Nat.eq_of_beq_eq_true hsh
        subst this
        obtain ⟨x0, rfl⟩ := one_of hl
        have g0 := hall 0 x0 2 rfl rfl
        have d0 := hg x0 (by simp)
        have hf : ∀ y ∈ [x0], Fact 4 y := fun y hy => (hg y hy).fact (by omega)
        have hv := f.mem (by omega)
        rw [hb] at hv
        have := sk_use (a := 4) (by omega) p4 rfl hf (fun i y hy hr => by
          match i with
          | 0 => simp at hy; subst hy; exact (top_fn (by omega) d0 g0).1
          | i + 1 => simp at hy) hv (by simp)
        exact ⟨_, this, loose_one (s := (8, 1, [0])) (by decide) rfl rfl (wrd_cells (hf x0 (by simp)).dc) (top_fn (by omega) d0 g0).2, rfl⟩
      · cases k1 with
        | zero => simp at hsh
        | succ k1 =>
          simp only [] at hsh
          have := Nat.eq_of_beq_eq_true hsh
          subst this
          obtain ⟨x0, x1, rfl⟩ := two_of hl
          exfalso
          have d1 := hg x1 (by simp)
          have g1 := hall 1 x1 (atKey 2 3 4 (k1 + 1)) rfl rfl
          unfold atKey at g1
          simp only [] at g1
          cases hlt : Nat.blt (k1 + 1) 4 with
          | true => rw [hlt] at g1; simp only [cond_true] at g1; rw [d1.no (k := 3) rfl] at g1; cases g1
          | false => rw [hlt] at g1; simp only [cond_false] at g1; rw [d1.no (k := 4) rfl] at g1; cases g1
      · simp at hsh
theorem wr5 {n : Nat} {x : X} (h : GD 5 n x) (hn : n ≤ 8) (hb : x.b (rt 5) = true) : ∃ w, Known Tryz.prog 6 ([.agg x.d, T 5] ++ pq) (.agg w) ∧ (Known Tryz.prog 8 (.agg w :: pq) (Bo false) ∧ ∀ c ∈ w, Cell c) ∧ w.length = 13 := by
    have f := h.fact (by omega)
    have hb' := hb
    rw [h.b_un (by omega) (k := rt 5) (ks := [0, 3]) rfl] at hb'
    by_cases h0 : x.b 0 = true
    · exact wrU (a := 5) (by omega) h hb p5i (fun e => by cases e) (fun _ => (h.flat (k := 0) (nk := .int) rfl (.inl rfl) h0).1) (by intro m hm; simp at hm; subst hm; exact ⟨h0, _, rfl⟩)
    · have h3 : x.b 3 = true := by simpa [h0] using hb'
      exact wrU (a := 5) (by omega) h hb p5f (fun _ => h3) (fun e => by cases e) (by intro m hm; simp at hm; rcases hm with rfl | rfl; exact ⟨by simpa using h0, _, rfl⟩; exact ⟨h3, _, rfl⟩)
theorem wr6 {n : Nat} {x : X} (h : GD 6 n x) (hn : n ≤ 8) (hb : x.b (rt 6) = true) : ∃ w, Known Tryz.prog 6 ([.agg x.d, T 6] ++ pq) (.agg w) ∧ (Known Tryz.prog 8 (.agg w :: pq) (Bo false) ∧ ∀ c ∈ w, Cell c) ∧ w.length = 13 := by
    have f := h.fact (by omega)
    have hb' := hb
    rw [h.b_un (by omega) (k := rt 6) (ks := [1, 4]) rfl] at hb'
    by_cases h1 : x.b 1 = true
    · obtain ⟨m, xs, rfl, hl, hg, hall⟩ := h.tup (k := 1) (ks := [0]) rfl h1
      obtain ⟨x0, rfl⟩ := one_of hl
      have g0 := hall 0 x0 0 rfl rfl
      have d0 := hg x0 (by simp)
      have hf : ∀ y ∈ [x0], Fact 6 y := fun y hy => (hg y hy).fact (by omega)
      have hv := f.mem (by omega)
      rw [hb] at hv
      have m1 := f.memOf (by omega) (k := 1) (nk := .tup [0]) rfl
      rw [h1] at m1
      have := sk_use (a := 6) (by omega) p6t rfl hf (fun i y hy hr => by
        match i with
        | 0 => simp at hr
        | i + 1 => simp at hy) hv (by intro m hm; simp at hm; subst hm; exact m1)
      refine ⟨_, this, ?_, rfl⟩
      have l0 := (hf x0 (by simp)).ls
      rw [(d0.flat (k := 0) (nk := .int) rfl (.inl rfl) g0).1] at l0
      exact loose_one (s := (6, 1, [])) (by decide) rfl (hf x0 (by simp)).dl (hf x0 (by simp)).dc l0
    · have h4 : x.b 4 = true := by simpa [h1] using hb'
      exact wrU (a := 6) (by omega) h hb p6f (fun _ => h4) (fun e => by cases e) (by intro m hm; simp at hm; rcases hm with rfl | rfl; exact ⟨by simpa using h1, _, rfl⟩; exact ⟨h4, _, rfl⟩)
theorem wrapped {a : Nat} (ha : a < 8) {n : Nat} {x : X} (h : GD a n x) (hn : n ≤ 8) (hb : x.b (rt a) = true) : ∃ w, Known Tryz.prog 6 ([.agg x.d, T a] ++ pq) (.agg w) ∧ (Known Tryz.prog 8 (.agg w :: pq) (Bo false) ∧ ∀ c ∈ w, Cell c) ∧ w.length = 13 := by
  match a, ha with
  | 0, _ => exact wr0 h hn hb
  | 1, _ => exact wr1 h hn hb
  | 2, _ => exact wr2 h hn hb
  | 3, _ => exact wr3 h hn hb
  | 4, _ => exact wr4 h hn hb
  | 5, _ => exact wr5 h hn hb
  | 6, _ => exact wr6 h hn hb
  | 7, _ => exact wr7 h hn hb
/-- what the law asks of whatever is made -/
theorem closes {a : Nat} (ha : a < 8) {n : Nat} {x : X} (h : GD a n x) (hn : n ≤ 8) : ∃ w b l, Known Tryz.prog 6 ([.agg x.d, T a] ++ pq) (.agg w) ∧ Known Tryz.prog 7 [.agg x.d, T a] (Bo b) ∧ Known Tryz.prog 8 (.agg w :: pq) (Bo l) ∧ (b = true → l = false) ∧ w.length = 13 ∧ ∀ c ∈ w, Cell c := by
  have f := h.fact ha
  cases hb : x.b (rt a) with
  | false =>
    have hp := f.pass ha
    rw [hb] at hp
    exact ⟨_, _, _, f.wrapNo ha hb, hp, f.ls, (fun e => by cases e), f.dl, f.dc⟩
  | true =>
    have hp := f.pass ha
    rw [hb] at hp
    obtain ⟨w, h1, h2, h3⟩ := wrapped ha h hn hb
    exact ⟨w, _, _, h1, hp, h2.1, fun _ => rfl, h3, h2.2⟩
end
end Go.Ev.B
