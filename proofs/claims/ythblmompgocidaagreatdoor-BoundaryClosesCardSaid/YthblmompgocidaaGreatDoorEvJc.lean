/- Whatever is made: wrapped by the type, no function in it is loose, if it passes. -/
import Derived.Test.YthblmompgocidaaGreatDoorEvJb
import Derived.Test.YthblmompgocidaaGreatDoorEvFd
set_option linter.all false
namespace Go.Ev.B
open Go.Proofs
theorem full_un {a : Nat} (ha : a < 8) {p : NK → Bool} {k : Nat} {ks : List Nat} (hk : (nds a)[k]? = some (.un ks)) : full a p k = ks.any (full a p) := by
  have hun := allIx_at0 (u_unOk a ha) k _ hk
  simp only [List.all_eq_true] at hun
  have : full a p k = ks.any (base a p) := by unfold full; rw [hk]
  rw [this]
  rw [Bool.eq_iff_iff, List.any_eq_true, List.any_eq_true]
  have key : ∀ k' ∈ ks, base a p k' = full a p k' := by
    intro k' hk'
    have := hun k' hk'
    unfold base full
    cases hn : (nds a)[k']? with
    | none => rfl
    | some nk =>
      rw [hn] at this
      cases nk <;> first | rfl | (simp [isUn] at this)
  constructor
  · rintro ⟨k', h1, h2⟩; exact ⟨k', h1, (key k' h1) ▸ h2⟩
  · rintro ⟨k', h1, h2⟩; exact ⟨k', h1, (key k' h1).symm ▸ h2⟩
theorem full_nk {a : Nat} {p : NK → Bool} {k : Nat} {nk : NK} (hk : (nds a)[k]? = some nk) (hu : isUn nk = false) : full a p k = p nk := by
  unfold full
  rw [hk]
  cases nk <;> first | rfl | (simp [isUn] at hu)
theorem GD.b_un {a : Nat} (ha : a < 8) {n : Nat} {x : X} (h : GD a n x) {k : Nat} {ks : List Nat} (hk : (nds a)[k]? = some (.un ks)) : x.b k = ks.any x.b := by
  cases h with
  | leaf hx => exact full_un ha hk
  | comp _ _ _ _ => exact full_un ha hk
/-- a function where the type has one -/
theorem GD.fn {a : Nat} {n : Nat} {x : X} (h : GD a n x) {k : Nat} {ks : List Nat} (hk : (nds a)[k]? = some (.fn ks)) (hb : x.b k = true) : ∃ y ∈ leaves a, x = lx a y ∧ ∃ ar, isFn y = some ar ∧ ar + 1 = ks.length := by
  cases h with
  | leaf hx =>
    rename_i y
    refine ⟨y, hx, rfl, ?_⟩
    have hb : full a (lhas y) k = true := hb
    rw [full_nk hk rfl] at hb
    simp only [lhas] at hb
    cases hf : isFn y with
    | none => rw [hf] at hb; cases hb
    | some ar => rw [hf] at hb; exact ⟨ar, rfl, Nat.eq_of_beq_eq_true hb⟩
  | comp hs hl hg hc =>
    have hb : full a (cp _ _) k = true := hb
    rw [full_nk hk rfl] at hb
    simp [cp, kidNodes] at hb
/-- a leaf that is no function where the type has one -/
theorem GD.flat {a : Nat} {n : Nat} {x : X} (h : GD a n x) {k : Nat} {nk : NK} (hk : (nds a)[k]? = some nk) (hnk : nk = .int ∨ nk = .nil ∨ ∃ t, nk = .atom t) (hb : x.b k = true) : x.l = false ∧ ∃ y, x = lx a y ∧ lhas y nk = true := by
  have hu : isUn nk = false := by rcases hnk with rfl | rfl | ⟨t, rfl⟩ <;> rfl
  cases h with
  | leaf hx =>
    rename_i y
    have hb : full a (lhas y) k = true := hb
    rw [full_nk hk hu] at hb
    refine ⟨?_, y, rfl, hb⟩
    show (isFn y).isSome = false
    rcases hnk with rfl | rfl | ⟨t, rfl⟩ <;> cases y <;> simp [lhas] at hb <;> rfl
  | comp hs hl hg hc =>
    have hb : full a (cp _ _) k = true := hb
    rw [full_nk hk hu] at hb
    rcases hnk with rfl | rfl | ⟨t, rfl⟩ <;> simp [cp, kidNodes] at hb
theorem GD.no {a : Nat} {n : Nat} {x : X} (h : GD a n x) {k : Nat} (hk : (nds a)[k]? = some .no) : x.b k = false := by
  cases h with
  | leaf hx => show full a _ k = false; rw [full_nk hk rfl]; rfl
  | comp hs hl hg hc => show full a _ k = false; rw [full_nk hk rfl]; rfl
theorem allB_zip {z : X} {k' : Nat} : ∀ {ks : List Nat} {xs : List X} {i : Nat}, allB (zipB ks (xs.map X.b)) = true → ks[i]? = some k' → xs[i]? = some z → z.b k' = true
  | [], _, _, _, h, _ => by simp at h
  | _ :: _, [], _, _, _, h => by simp at h
  | k :: ks, x :: xs, 0, h, h1, h2 => by
    simp only [List.map_cons, zipB, allB, List.all_cons, Bool.and_eq_true, List.getElem?_cons_zero, Option.some.injEq] at h h1 h2
    subst h1; subst h2; exact h.1
  | k :: ks, x :: xs, i + 1, h, h1, h2 => by
    simp only [List.map_cons, zipB, allB, List.all_cons, Bool.and_eq_true] at h
    exact allB_zip (ks := ks) (xs := xs) h.2 (by simpa using h1) (by simpa using h2)
theorem shapes6 : ∀ s ∈ shapes, s.1 = 6 → s.2.2 = [] := by decide
theorem shapes7 : ∀ s ∈ shapes, s.1 = 7 → s = (7, 2, []) := by decide
/-- a composite where the type has one -/
theorem GD.kids {a : Nat} {n : Nat} {x : X} (h : GD a n x) {k : Nat} {nk : NK} (hk : (nds a)[k]? = some nk) (hu : isUn nk = false) (hno : ∀ y, lhas y nk = false) (hb : x.b k = true) :
    ∃ m s xs ks, n = m + 1 ∧ s ∈ shapes ∧ x = cx a s xs ∧ xs.length = s.2.1 ∧ (∀ y ∈ xs, GD a m y) ∧ kidNodes s nk = some ks ∧ ∀ (i : Nat) y k', ks[i]? = some k' → xs[i]? = some y → y.b k' = true := by
  cases h with
  | leaf hx =>
    have hb : full a (lhas _) k = true := hb
    rw [full_nk hk hu, hno] at hb
    cases hb
  | comp hs hl hg hc =>
    rename_i m s xs
    have hb : full a (cp _ _) k = true := hb
    rw [full_nk hk hu] at hb
    unfold cp at hb
    cases hkn : kidNodes s nk with
    | none => rw [hkn] at hb; cases hb
    | some ks =>
      rw [hkn] at hb
      exact ⟨m, s, xs, ks, rfl, hs, rfl, hl, hg, hkn, fun i y k' h1 h2 => allB_zip hb h1 h2⟩
theorem GD.tup {a : Nat} {n : Nat} {x : X} (h : GD a n x) {k : Nat} {ks : List Nat} (hk : (nds a)[k]? = some (.tup ks)) (hb : x.b k = true) :
    ∃ m xs, x = cx a (6, ks.length, []) xs ∧ xs.length = ks.length ∧ (∀ y ∈ xs, GD a m y) ∧ ∀ (i : Nat) y k', ks[i]? = some k' → xs[i]? = some y → y.b k' = true := by
  obtain ⟨m, s, xs, ks', rfl, hs, rfl, hl, hg, hkn, hall⟩ := h.kids hk rfl (fun y => rfl) hb
  simp only [kidNodes] at hkn
  obtain ⟨hbb, rfl⟩ := bif_some hkn
  simp only [Bool.and_eq_true] at hbb
  have h1 := Nat.eq_of_beq_eq_true hbb.1
  have h2 := Nat.eq_of_beq_eq_true hbb.2
  have h3 := shapes6 s hs h1
  have : s = (6, ks.length, []) := by
    obtain ⟨s1, s2, s3⟩ := s
    simp only at h1 h2 h3
    rw [h1, h2, h3]
  subst this
  exact ⟨m, xs, rfl, hl, hg, hall⟩
section
variable [E : Env]
theorem val_ok {v : List PV} (hl : v.length = 7) (hc : ∀ c ∈ v, Cell c) (h : Known Tryz.prog 120 [.agg v] (Bo true)) : Known Tryz.prog 89 [.agg v] (I 0) := by
  have e : subL (pick v) (ur 0 7) = v := subL_at (pre := []) (post := []) (by simp) rfl hl
  have := cx_use (fit_pick hc) (@e89ok) t_val (by
    simp only [subB_cons, subB_nil, subP_cons, subP_nil, subL_cons, subL_nil, sub_agg, sub_v, e]
    exact ⟨⟨h, trivial⟩, trivial⟩)
  simp only [subL_cons, subL_nil, sub_agg, sub_v, e] at this
  exact this
theorem Fact.val {a : Nat} {x : X} (f : Fact a x) : Known Tryz.prog 89 [.agg x.v] (I 0) := val_ok f.vl f.vc f.ok
theorem Fact.memOf {a : Nat} (ha : a < 8) {x : X} (f : Fact a x) {k : Nat} {nk : NK} (hk : (nds a)[k]? = some nk) : Known Tryz.prog 54 [.agg x.v, T a, I k] (Bo (x.b k)) := by
  have e : subL (pick x.v) (ur 0 7) = x.v := subL_at (pre := []) (post := []) (by simp) rfl f.vl
  have h1 := List.all_eq_true.1 (u_memOf a ha) k (List.mem_range.2 (List.getElem?_eq_some_iff.1 hk).1)
  have h2 := List.all_eq_true.1 h1 (x.b k) (by cases x.b k <;> simp [B2])
  have := cx_use (fit_pick f.vc) (@e54ok) h2 (by
    simp only [subB_cons, subB_nil, subP_cons, subP_nil, subL_cons, subL_nil, sub_agg, sub_v, sub_T, e]
    exact ⟨⟨f.val, trivial⟩, ⟨c49 a ha, trivial⟩, ⟨f.has k nk hk, trivial⟩, trivial⟩)
  simp only [subL_cons, subL_nil, sub_agg, sub_v, sub_T, e] at this
  exact this
theorem root_at : ∀ a, a < 8 → ∃ nk, (nds a)[rt a]? = some nk := eight ⟨_, rfl⟩ ⟨_, rfl⟩ ⟨_, rfl⟩ ⟨_, rfl⟩ ⟨_, rfl⟩ ⟨_, rfl⟩ ⟨_, rfl⟩ ⟨_, rfl⟩
theorem Fact.mem {a : Nat} (ha : a < 8) {x : X} (f : Fact a x) : Known Tryz.prog 24 [.agg x.v, T a] (Bo (x.b (rt a))) := by
  have e : subL (pick x.v) (ur 0 7) = x.v := subL_at (pre := []) (post := []) (by simp) rfl f.vl
  obtain ⟨nk, hk⟩ := root_at a ha
  have h2 := List.all_eq_true.1 (u_mem a ha) (x.b (rt a)) (by cases x.b (rt a) <;> simp [B2])
  have := cx_use (fit_pick f.vc) (@e24ok) h2 (by
    simp only [subB_cons, subB_nil, subP_cons, subP_nil, subL_cons, subL_nil, sub_agg, sub_v, sub_T, e]
    exact ⟨⟨f.memOf ha hk, trivial⟩, trivial⟩)
  simp only [subL_cons, subL_nil, sub_agg, sub_v, sub_T, e] at this
  exact this
theorem Fact.pass {a : Nat} (ha : a < 8) {x : X} (f : Fact a x) : Known Tryz.prog 7 [.agg x.d, T a] (Bo (x.b (rt a))) := by
  have e : subL (pick (x.d ++ x.v)) (ur 0 13) = x.d := subL_at (pre := []) (post := x.v) (by simp) rfl f.dl
  have e2 : subL (pick (x.d ++ x.v)) (ur 13 7) = x.v := subL_at (pre := x.d) (post := []) (by simp) f.dl.symm f.vl
  have h2 := List.all_eq_true.1 (u_pass a ha) (x.b (rt a)) (by cases x.b (rt a) <;> simp [B2])
  have := cx_use (fit_pick (cells_app f.dc f.vc)) (@e7ok) h2 (by
    simp only [subB_cons, subB_nil, subP_cons, subP_nil, subL_cons, subL_nil, sub_agg, sub_v, sub_T, e, e2]
    exact ⟨⟨f.er, trivial⟩, ⟨f.mem ha, trivial⟩, trivial⟩)
  simp only [subL_cons, subL_nil, sub_agg, sub_v, sub_T, e] at this
  exact this
theorem Fact.wrapNo {a : Nat} (ha : a < 8) {x : X} (f : Fact a x) (hb : x.b (rt a) = false) : Known Tryz.prog 6 ([.agg x.d, T a] ++ pq) (.agg x.d) := by
  have e : subL (pick x.d) (ur 0 13) = x.d := subL_at (pre := []) (post := []) (by simp) rfl f.dl
  have hp := f.pass ha
  rw [hb] at hp
  have := cx_use (fit_pick f.dc) (@e6ok) (u_wrapNo a ha) (by
    simp only [subB_cons, subB_nil, subP_cons, subP_nil, subL_cons, subL_nil, sub_agg, sub_v, sub_T, e]
    exact ⟨⟨f.cl, trivial⟩, ⟨c22 a ha, trivial⟩, ⟨hp, trivial⟩, trivial⟩)
  simp only [pq, List.cons_append, List.nil_append, subL_cons, subL_nil, sub_agg, sub_v, sub_T, e] at this
  exact this
theorem nodes_cell (a : Nat) : Cell (nodes a) := (ld_cells (.nw a [] [])).1 (nodes a) (by simp [ld, dWr])
theorem wrd_cells {a : Nat} {d : List PV} (h : ∀ c ∈ d, Cell c) : ∀ c ∈ wrd a d, Cell c := by
  intro c hc
  simp only [wrd, dWr, List.mem_cons, List.not_mem_nil, or_false] at hc
  rcases hc with rfl | rfl | rfl | rfl | rfl | rfl | rfl | rfl | rfl | rfl | rfl | rfl | rfl <;> first | exact cell_v _ | exact cell_slO (by simpa using h) | exact nodes_cell a
/-- a function, wrapped -/
theorem fn_fact {a : Nat} (ha : a < 8) {y : LF} (hy : y ∈ leaves a) (hf : isFn y = some (far a)) :
    Known Tryz.prog 56 [W a, .agg (ld y), I (fk a)] (.agg (wrd a (ld y))) ∧ Known Tryz.prog 8 (.agg (wrd a (ld y)) :: pq) (Bo false) := by
  have h := List.all_eq_true.1 (u_fn a ha) y hy
  simp only [okFn, hf, Nat.beq_refl, Bool.not_true, Bool.false_or, Bool.and_eq_true] at h
  have hw : ∀ σ, subL σ (wrd a (ld y)) = wrd a (ld y) := fun σ => subL_cells (wrd_cells (ld_cells y).1)
  have hT : ∀ σ, sub σ (cT a) = cT a := fun σ => by
    show sub σ (.agg [nodes a, I (fk a)]) = _
    rw [sub_agg, subL_cons, subL_cons, subL_nil, sub_cell (nodes_cell a), sub_v]; rfl
  have k1 := cx_use (E := E) fit0 (@e56ok) h.1 (by
    simp only [subB_cons, subB_nil, subP_cons, subP_nil, subL_cons, subL_nil, sub_agg, sub_v, sub_T, hT]
    exact ⟨⟨c88 a ha, trivial⟩, trivial⟩)
  have k2 := cx_use (E := E) fit0 (@e8ok) h.2 trivial
  simp only [pq, subL_cons, subL_nil, sub_agg, sub_v, sub_W, sub_ld, hw] at k1 k2
  exact ⟨k1, k2⟩
theorem subP_moPg (σ : Nat → PV) (a : Nat) (v : PV) : ∀ (mo : List (Nat × Bool)), subP σ (moPg a v mo) = moPg a (sub σ v) mo
  | [] => rfl
  | m :: mo => by
    have := subP_moPg σ a v mo
    unfold moPg at this ⊢
    simp only [List.map_cons, subP_cons, subL_cons, subL_nil, sub_T, sub_v, this]
theorem page_moPg {a : Nat} {v : PV} : ∀ {mo : List (Nat × Bool)}, (∀ m ∈ mo, Known Tryz.prog 54 [v, T a, I m.1] (Bo m.2)) → (∀ y, v ≠ .top ∨ y = ()) → (∃ l, v = .agg l) → PageOk Tryz.prog 54 (moPg a v mo)
  | [], _, _, _ => trivial
  | m :: mo, h, h', ⟨l, hl⟩ => by
    subst hl
    exact ⟨h m (by simp), page_moPg (fun x hx => h x (by simp [hx])) h' ⟨l, rfl⟩⟩
theorem subP_pgR (σ : Nat → PV) (a : Nat) : ∀ (bs : List Bool) (us rs : List (List PV)), subP σ (pgR a bs us rs) = pgR a bs (subE σ us) (subE σ rs)
  | [], _, _ => by simp [pgR, subP]
  | _ :: _, [], _ => by simp [pgR, subP, subE]
  | _ :: _, _ :: _, [] => by simp [pgR, subP, subE]
  | b :: bs, u :: us, r :: rs => by
    cases b <;> simp only [pgR, cond_true, cond_false, subE_cons, subP_cons, subL_cons, subL_nil, sub_agg, sub_v, sub_W, subP_pgR σ a bs us rs]
theorem page_pgR {a : Nat} : ∀ {bs : List Bool} {us rs : List (List PV)}, (∀ (i : Nat) u r, bs[i]? = some true → us[i]? = some u → rs[i]? = some r → Known Tryz.prog 56 [W a, .agg u, I (fk a)] (.agg r)) → PageOk Tryz.prog 56 (pgR a bs us rs)
  | [], _, _, _ => trivial
  | _ :: _, [], _, _ => trivial
  | _ :: _, _ :: _, [], _ => trivial
  | b :: bs, u :: us, r :: rs, h => by
    have ih := page_pgR (bs := bs) (us := us) (rs := rs) fun i u' r' h1 h2 h3 => h (i + 1) u' r' (by simpa using h1) (by simpa using h2) (by simpa using h3)
    cases b with
    | false => exact ih
    | true => exact ⟨h 0 u r rfl rfl rfl, ih⟩
theorem subE_repl (σ : Nat → PV) : ∀ (bs : List Bool) (us rs : List (List PV)), subE σ (repl bs us rs) = repl bs (subE σ us) (subE σ rs)
  | [], _, _ => by simp [repl, subE]
  | _ :: _, [], _ => by simp [repl, subE]
  | _ :: _, _ :: _, [] => by simp [repl, subE]
  | b :: bs, u :: us, r :: rs => by
    cases b <;> simp only [repl, cond_true, cond_false, subE_cons, subE_repl σ bs us rs]
/-- what stands for the unknown cells of a skeleton -/
def fill (a : Nat) (xs : List X) : List PV := (xs.map X.d).flatten ++ ((xs.map X.v).flatten ++ (xs.map fun x => wrd a x.d).flatten)
theorem fill_ok {a : Nat} {xs : List X} (hf : ∀ x ∈ xs, Fact a x) : (∀ c ∈ fill a xs, Cell c) ∧ subE (pick (fill a xs)) (kd xs.length) = xs.map X.d ∧ subE (pick (fill a xs)) (kv xs.length) = xs.map X.v ∧ subE (pick (fill a xs)) (ru xs.length) = xs.map (fun x => wrd a x.d) := by
  have hdc := map_cells fun x hx => (hf x hx).dc
  have hvc := map_cells fun x hx => (hf x hx).vc
  have hwc : ∀ e ∈ xs.map (fun x => wrd a x.d), ∀ c ∈ e, Cell c := map_cells fun x hx => wrd_cells (hf x hx).dc
  have hdl := map_len fun x hx => (hf x hx).dl
  have hvl := map_len fun x hx => (hf x hx).vl
  have hwl : Len 13 (xs.map fun x => wrd a x.d) := map_len fun x hx => rfl
  refine ⟨cells_app (cells_flat hdc) (cells_app (cells_flat hvc) (cells_flat hwc)), ?_, ?_, ?_⟩
  · exact subE_us (pre := []) rfl rfl (by simp) hdl
  · exact subE_us (pre := (xs.map X.d).flatten) rfl (by rw [len_flat hdl]; simp) (by simp) hvl
  · refine subE_us (pre := (xs.map X.d).flatten ++ (xs.map X.v).flatten) (post := []) (by simp [fill]) ?_ (by simp) hwl
    rw [List.length_append, len_flat hdl, len_flat hvl, List.length_map, List.length_map, ← Nat.add_mul]
theorem skP_ok {a : Nat} (ha : a < 8) {xs : List X} {rep : List Bool} (hf : ∀ x ∈ xs, Fact a x) (hR : ∀ (i : Nat) x, xs[i]? = some x → rep[i]? = some true → Known Tryz.prog 56 [W a, .agg x.d, I (fk a)] (.agg (wrd a x.d)))
    {v : List PV} {mo : Page} (hv : Known Tryz.prog 24 [.agg (subL (pick (fill a xs)) v), T a] (Bo true)) (hmo : PageOk Tryz.prog 54 (subP (pick (fill a xs)) mo)) :
    BookOk Tryz.prog (subB (pick (fill a xs)) (skP a xs.length (.agg v) mo rep)) := by
  obtain ⟨_, e1, e2, e3⟩ := fill_ok hf
  unfold skP
  simp only [subB_cons, subB_nil, subP_cons, subP_nil, subL_cons, subL_nil, sub_agg, sub_v, sub_T, subP_pgR, e1, e3]
  rw [subP_pg _ _ (fun x => by simp only [subL_cons, subL_nil, sub_agg]), subP_pg _ _ (fun x => by simp only [subL_cons, subL_nil, sub_agg]), sub_aggs, sub_aggs, e1, e2]
  refine ⟨⟨c22 a ha, trivial⟩, page_pg _ fun i x y h1 h2 => ?_, page_pg _ fun i x y h1 h2 => ?_, ⟨hv, trivial⟩, hmo, page_pgR fun i u r h1 h2 h3 => ?_, trivial⟩
  · obtain ⟨z, hz, rfl, rfl⟩ := at_pair h1 h2
    exact (hf z hz).cl
  · obtain ⟨z, hz, rfl, rfl⟩ := at_pair h1 h2
    exact (hf z hz).er
  · rw [List.getElem?_map] at h2 h3
    cases hz : xs[i]? with
    | none => rw [hz] at h2; cases h2
    | some z =>
      rw [hz] at h2 h3
      simp only [Option.map_some, Option.some.injEq] at h2 h3
      subst h2; subst h3
      exact hR i z hz h1
/-- a skeleton, wrapped -/
theorem sk_use {a : Nat} (ha : a < 8) {s : Nat × Nat × List Nat} {xs : List X} {mo : List (Nat × Bool)} {rep : List Bool} (h : okP CW a s mo rep = true) (hn : xs.length = s.2.1) (hf : ∀ x ∈ xs, Fact a x)
    (hR : ∀ (i : Nat) x, xs[i]? = some x → rep[i]? = some true → Known Tryz.prog 56 [W a, .agg x.d, I (fk a)] (.agg (wrd a x.d)))
    (hv : Known Tryz.prog 24 [.agg (vComp s.1 (xs.map X.v) (keysOf s.2.2)), T a] (Bo true)) (hmo : ∀ m ∈ mo, Known Tryz.prog 54 [.agg (vComp s.1 (xs.map X.v) (keysOf s.2.2)), T a, I m.1] (Bo m.2)) :
    Known Tryz.prog 6 ([.agg (dComp s.1 (xs.map X.d) (keysOf s.2.2)), T a] ++ pq) (.agg (dComp s.1 (repl rep (xs.map X.d) (xs.map fun x => wrd a x.d)) (keysOf s.2.2))) := by
  obtain ⟨e0, e1, e2, e3⟩ := fill_ok hf
  unfold okP at h
  rw [← hn] at h
  have := cw_use (fit_pick e0) (@e6ok) h (skP_ok ha hf hR (by rw [sub_vComp, e2]; exact hv) (by rw [subP_moPg, sub_agg, sub_vComp, e2]; exact page_moPg hmo (fun _ => .inr rfl) ⟨_, rfl⟩))
  simp only [pq, List.cons_append, List.nil_append, subL_cons, subL_nil, sub_agg, sub_v, sub_T, sub_dComp, subE_repl, e1, e3] at this
  exact this
theorem skU_use {a : Nat} (ha : a < 8) {x : X} {mo : List (Nat × Bool)} {rep : Bool} (h : okPU CW a mo rep = true) (f : Fact a x)
    (hR : rep = true → Known Tryz.prog 56 [W a, .agg x.d, I (fk a)] (.agg (wrd a x.d))) (hb : x.b (rt a) = true) (hmo : ∀ m ∈ mo, x.b m.1 = m.2 ∧ ∃ nk, (nds a)[m.1]? = some nk) :
    Known Tryz.prog 6 ([.agg x.d, T a] ++ pq) (.agg (bif rep then wrd a x.d else x.d)) := by
  have hf : ∀ y ∈ [x], Fact a y := by simpa using f
  obtain ⟨e0, e1, e2, e3⟩ := fill_ok hf
  have u1 : subL (pick (fill a [x])) (ur 0 13) = x.d := by simpa [kd, us, subE_cons, subE_nil] using e1
  have u2 : subL (pick (fill a [x])) (ur 13 7) = x.v := by simpa [kv, us, subE_cons, subE_nil] using e2
  have u3 : subL (pick (fill a [x])) (ur 20 13) = wrd a x.d := by simpa [ru, us, subE_cons, subE_nil] using e3
  have hv := f.mem ha
  rw [hb] at hv
  unfold okPU at h
  have := cw_use (fit_pick e0) (@e6ok) h (skP_ok (xs := [x]) ha hf (fun i y h1 h2 => by
      cases i with
      | zero => simp at h1 h2; subst h1; exact hR h2
      | succ i => simp at h1) (by rw [u2]; exact hv) (by
      rw [subP_moPg, sub_agg, u2]
      refine page_moPg (fun m hm => ?_) (fun _ => .inr rfl) ⟨_, rfl⟩
      obtain ⟨g1, nk, g2⟩ := hmo m hm
      rw [← g1]
      exact f.memOf ha g2))
  simp only [pq, List.cons_append, List.nil_append, subL_cons, subL_nil, sub_agg, sub_v, sub_T, u1] at this
  cases rep
  · simp only [cond_false, u1] at this; exact this
  · simp only [cond_true, u3] at this; exact this
theorem loose_comp {s : Nat × Nat × List Nat} (hs : s ∈ shapes) {ks : List (List PV)} {bs : List Bool} (hn : ks.length = s.2.1) (hl : Len 13 ks) (hc : ∀ e ∈ ks, ∀ c ∈ e, Cell c) (hb : bs.length = s.2.1)
    (h : ∀ (i : Nat) k b, ks[i]? = some k → bs[i]? = some b → Known Tryz.prog 8 (.agg k :: pq) (Bo b)) : Known Tryz.prog 8 (.agg (dComp s.1 ks (keysOf s.2.2)) :: pq) (Bo (anyB bs)) := by
  have skd : subE (pick ks.flatten) (kd s.2.1) = ks := subE_us (pre := []) (post := []) (by simp) rfl (by simp [hn]) hl
  have k4 := cx_use (fit_pick (cells_flat hc)) (@e8ok) (List.all_eq_true.1 (List.all_eq_true.1 t_loose s hs) bs (cube_at hb)) (by
    rw [subB_cons, subB_nil, subP_pg _ _ (fun x => by simp only [pq, subL_cons, subL_nil, sub_agg, sub_v]), sub_bos, skd]
    refine ⟨page_pg _ fun i x y h1 h2 => ?_, trivial⟩
    unfold bos at h2
    rw [List.getElem?_map] at h2
    cases hz : bs[i]? with
    | none => rw [hz] at h2; cases h2
    | some z =>
      rw [hz] at h2
      simp only [Option.map_some, Option.some.injEq] at h2
      subst h2
      exact h i x z h1 hz)
  simp only [pq, subL_cons, subL_nil, sub_agg, sub_v, sub_dComp, skd] at k4
  exact k4
end
end Go.Ev.B
