/- What draws from the source: scripts, filled. -/
import Derived.Test.YthblmompgocidaaGreatDoorEvJd
import Derived.Test.YthblmompgocidaaGreatDoorEvFc
import Derived.Test.YthblmompgocidaaGreatDoorEvN0
import Derived.Test.YthblmompgocidaaGreatDoorEvN1
set_option linter.all false
/- What draws from the source: scripts, filled. -/
namespace Go.Ev.B
open Go.Proofs
/-- what stands for the unknown cells of a script: the source's, and the data that are drawn -/
def sg (lp : PV) (ps : List Nat) (ds : List PV) : Nat → PV := pick ((lp :: ps.map I) ++ (List.replicate (19 - ps.length) NL ++ ds))
theorem src_cell {lp : PV} (h : SrcL lp) : Cell lp := by
  obtain ⟨zs, ⟨rfl, _⟩ | ⟨ex, rfl⟩, _⟩ := h
  · exact cell_v _
  · refine ⟨?_, .inr ⟨_, _, rfl⟩⟩
    show cleanE (zs.map fun z => [num z]) = true
    induction zs with
    | nil => rfl
    | cons z zs ih =>
      rename_i h
      simp only [List.map_cons, cleanE, cleanL, clean, Bool.and_self, Bool.true_and, Bool.and_true]
      exact ih (by simp at h; omega)
theorem sg_fit {lp : PV} {ps : List Nat} {ds : List PV} (h : SrcL lp) (hd : ∀ c ∈ ds, Cell c) : Fit (sg lp ps ds) := by
  refine fit_pick (cells_app ?_ (cells_app ?_ hd))
  · intro c hc
    rcases List.mem_cons.1 hc with rfl | hc
    · exact src_cell h
    · obtain ⟨k, _, rfl⟩ := List.mem_map.1 hc
      exact cell_v _
  · intro c hc
    obtain ⟨_, rfl⟩ := List.mem_replicate.1 hc
    exact cell_v _
theorem sg_0 (lp : PV) (ps : List Nat) (ds : List PV) : sg lp ps ds 0 = lp := pick_at rfl
theorem sg_at {lp : PV} {ps : List Nat} {ds : List PV} {i a : Nat} (h : ps[i]? = some a) : sg lp ps ds (i + 1) = I a := by
  apply pick_at
  have hi := (List.getElem?_eq_some_iff.1 h).1
  rw [List.getElem?_append_left (by simp; omega), List.getElem?_cons_succ, List.getElem?_map, h]
  rfl
theorem sg_ur {lp : PV} {ps : List Nat} {pre k post : List PV} (has : ps.length ≤ 19) {b n : Nat} (hb : b = 20 + pre.length) (hk : k.length = n) : subL (sg lp ps (pre ++ (k ++ post))) (ur b n) = k := by
  refine subL_at (pre := (lp :: ps.map I) ++ (List.replicate (19 - ps.length) NL ++ pre)) (post := post) (by simp) ?_ hk
  simp only [List.length_append, List.length_cons, List.length_map, List.length_replicate]
  omega
theorem sg_one {lp : PV} {ps : List Nat} {c : PV} (has : ps.length ≤ 19) : sg lp ps [c] 20 = c := by
  have := sg_ur (lp := lp) (ps := ps) (pre := []) (k := [c]) (post := []) has (b := 20) (n := 1) rfl rfl
  simp only [List.nil_append, List.append_nil, ur, subL_cons, subL_nil, sub_unk, List.cons.injEq, and_true] at this
  exact this
theorem sg_D0 {lp : PV} {ps : List Nat} {d post : List PV} (has : ps.length ≤ 19) (hd : d.length = 13) : subL (sg lp ps (d ++ post)) (D 0) = d := sg_ur (pre := []) has rfl hd
theorem sg_D1 {lp : PV} {ps : List Nat} {d e post : List PV} (has : ps.length ≤ 19) (hd : d.length = 13) (he : e.length = 13) : subL (sg lp ps (d ++ (e ++ post))) (D 1) = e := sg_ur (pre := d) has (by rw [hd]) he
section
variable [E : Env]
/-- each call of a script answers ps it says -/
def Chain (σ : Nat → PV) (lp : PV) : List Nat → Sc → Prop
  | a :: ps, (f, args, q) :: sc => match ps with
    | a' :: _ => KnownS Tryz.prog f 33 [lp, I a] (subL σ args) (sub σ q) [lp, I a'] ∧ Chain σ lp ps sc
    | [] => False
  | _, [] => True
  | [], _ :: _ => False
theorem page_seq {σ : Nat → PV} {lp : PV} (h0 : σ 0 = lp) (f : Nat) : ∀ (sc : Sc) (ps : List Nat) (j : Nat), (∀ (i : Nat) a, ps[i]? = some a → σ (j + i + 1) = I a) → Chain σ lp ps sc → PageOk Tryz.prog f (subP σ (seqPg f j sc))
  | [], _, _, _, _ => trivial
  | (g, args, q) :: sc, [], _, _, h => h.elim
  | (g, args, q) :: sc, [a], _, _, h => by simp [Chain] at h
  | (g, args, q) :: sc, a :: a' :: ps, j, hσ, h => by
    have ih := page_seq h0 f sc (a' :: ps) (j + 1) (fun i b hb => by
      have := hσ (i + 1) b (by simpa using hb)
      rwa [show j + (i + 1) + 1 = j + 1 + i + 1 by omega] at this) h.2
    unfold seqPg
    cases hg : Nat.beq g f with
    | false => exact ih
    | true =>
      have hg := Nat.eq_of_beq_eq_true hg
      subst hg
      have e1 := hσ 0 a rfl
      have e2 := hσ 1 a' rfl
      rw [Nat.add_zero] at e1
      refine ⟨?_, ih⟩
      simp only [stKey, subL_cons, subL_nil, sub_tup, sub_unk, h0, e1, e2, sub]
      exact ⟨_, _, rfl, h.1⟩
/-- a script, run -/
theorem run_use {f : Nat} (hf : ∀ [Env], FIOk Tryz.prog f (fiOf f)) {args : List PV} {sc : Sc} {B : Book} {q : PV} (h : okRun CT f args sc B q = true) {lp : PV} (hl : SrcL lp) {a : Nat} {ps : List Nat} {ds : List PV} (hd : ∀ c ∈ ds, Cell c)
    {a' : Nat} (ha' : (a :: ps)[sc.length]? = some a') (hc : Chain (sg lp (a :: ps) ds) lp (a :: ps) sc) (hB : BookOk Tryz.prog (subB (sg lp (a :: ps) ds) B)) :
    KnownS Tryz.prog f 33 [lp, I a] (subL (sg lp (a :: ps) ds) args) (sub (sg lp (a :: ps) ds) q) [lp, I a'] := by
  have hp := fun f => page_seq (sg_0 lp (a :: ps) ds) f sc (a :: ps) 0 (fun i b hb => by rw [Nat.zero_add]; exact sg_at hb) hc
  have := ct_use (sg_fit hl hd) hf h (by
    rw [subB_append]
    refine book_app ?_ hB
    exact ⟨hp _, hp _, hp _, hp _, hp _, hp _, hp _, trivial⟩)
  simp only [subL_cons, subL_nil, sub_unk, sg_0, sg_at ha'] at this
  rw [sg_at (i := 0) (a := a) rfl] at this
  exact this
/-! ### the source's words -/
def Draws (f : Nat) (args : List PV) (Q : PV → Prop) : Prop := ∀ lp a, SrcL lp → ∃ q a', Q q ∧ KnownS Tryz.prog f 33 [lp, I a] args q [lp, I a']
theorem d_next {m : Nat} (h1 : 1 ≤ m) (h2 : m ≤ 1000) : ∀ lp a, SrcL lp → ∃ x a', x < m ∧ KnownS Tryz.prog 15 33 [lp, I a] [I m] (I x) [lp, I a'] := fun lp a hl => next_ok hl a m h1 h2
theorem d_word : Draws 38 [] fun q => ∃ y, y < 4 ∧ q = S (wordsT.getD y []) := by
  intro lp a hl
  obtain ⟨y, a', hy, k⟩ := d_next (m := 4) (by omega) (by omega) lp a hl
  have := run_use (@e38ok) (List.all_eq_true.1 t_word y (List.mem_range.2 hy)) hl (a := a) (ps := [a']) (ds := []) (by simp) (a' := a') rfl ⟨by simpa only [nx, subL_cons, subL_nil, sub_v] using k, trivial⟩ trivial
  exact ⟨_, a', ⟨y, hy, rfl⟩, by simpa only [subL_nil, sub_v] using this⟩
theorem d_number : Draws 39 [] fun q => ∃ y, y < 10 ∧ q = .v (.int .i64 (ints.getD y 0)) := by
  intro lp a hl
  obtain ⟨y, a', hy, k⟩ := d_next (m := 10) (by omega) (by omega) lp a hl
  have := run_use (@e39ok) (List.all_eq_true.1 t_number y (List.mem_range.2 hy)) hl (a := a) (ps := [a']) (ds := []) (by simp) (a' := a') rfl ⟨by simpa only [nx, subL_cons, subL_nil, sub_v] using k, trivial⟩ trivial
  exact ⟨_, a', ⟨y, hy, rfl⟩, by simpa only [subL_nil, sub_v] using this⟩
theorem d_name : Draws 45 [] fun q => ∃ y, y < 4 ∧ q = S ([[97], [98], [111, 107], [101, 114, 114, 111, 114]].getD y []) := by
  intro lp a hl
  obtain ⟨y, a', hy, k⟩ := d_next (m := 4) (by omega) (by omega) lp a hl
  have := run_use (@e45ok) (List.all_eq_true.1 t_name y (List.mem_range.2 hy)) hl (a := a) (ps := [a']) (ds := []) (by simp) (a' := a') rfl ⟨by simpa only [nx, subL_cons, subL_nil, sub_v] using k, trivial⟩ trivial
  exact ⟨_, a', ⟨y, hy, rfl⟩, by simpa only [subL_nil, sub_v] using this⟩
theorem key_of0 : ∀ y, y < 4 → ∃ j, j < 8 ∧ [I 0, S (([[97], [98], [111, 107], [101, 114, 114, 111, 114]] : List (List Nat)).getD y [])] = key j
  | 0, _ => ⟨0, by omega, rfl⟩
  | 1, _ => ⟨1, by omega, rfl⟩
  | 2, _ => ⟨3, by omega, rfl⟩
  | 3, _ => ⟨2, by omega, rfl⟩
  | _ + 4, h => by omega
theorem key_of1 : ∀ y, y < 4 → ∃ j, j < 8 ∧ [I 1, S (wordsT.getD y [])] = key j
  | 0, _ => ⟨4, by omega, rfl⟩
  | 1, _ => ⟨6, by omega, rfl⟩
  | 2, _ => ⟨7, by omega, rfl⟩
  | 3, _ => ⟨5, by omega, rfl⟩
  | _ + 4, h => by omega
theorem d_key : ∀ lp a, SrcL lp → ∃ j a', j < 8 ∧ KnownS Tryz.prog 19 33 [lp, I a] [] (.agg (key j)) [lp, I a'] := by
  intro lp a hl
  have ht := t_key
  simp only [okKey, Bool.and_eq_true] at ht
  obtain ⟨x, a1, hx, k⟩ := d_next (m := 2) (by omega) (by omega) lp a hl
  have hx : x = 0 ∨ x = 1 := by omega
  rcases hx with rfl | rfl
  · obtain ⟨q, a2, ⟨y, hy, rfl⟩, k2⟩ := d_name lp a1 hl
    obtain ⟨j, hj, e⟩ := key_of0 y hy
    have := run_use (@e19ok) ht.1 hl (a := a) (ps := [a1, a2]) (ds := [S (([[97], [98], [111, 107], [101, 114, 114, 111, 114]] : List (List Nat)).getD y [])]) (by simpa using cell_v _) (a' := a2) rfl ⟨by simpa only [nx, subL_cons, subL_nil, sub_v] using k, by simpa only [nx, subL_cons, subL_nil, sub_v, sub_unk, sg_one (show [a, a1, a2].length ≤ 19 by simp)] using k2, trivial⟩ trivial
    simp only [subL_cons, subL_nil, sub_agg, sub_v, sub_unk, sg_one (show [a, a1, a2].length ≤ 19 by simp)] at this
    rw [e] at this
    exact ⟨j, a2, hj, this⟩
  · obtain ⟨q, a2, ⟨y, hy, rfl⟩, k2⟩ := d_word lp a1 hl
    obtain ⟨j, hj, e⟩ := key_of1 y hy
    have := run_use (@e19ok) ht.2 hl (a := a) (ps := [a1, a2]) (ds := [S (wordsT.getD y [])]) (by simpa using cell_v _) (a' := a2) rfl ⟨by simpa only [nx, subL_cons, subL_nil, sub_v] using k, by simpa only [nx, subL_cons, subL_nil, sub_v, sub_unk, sg_one (show [a, a1, a2].length ≤ 19 by simp)] using k2, trivial⟩ trivial
    simp only [subL_cons, subL_nil, sub_agg, sub_v, sub_unk, sg_one (show [a, a1, a2].length ≤ 19 by simp)] at this
    rw [e] at this
    exact ⟨j, a2, hj, this⟩
end
end Go.Ev.B

/- What Made makes. -/
namespace Go.Ev.B
open Go.Proofs
theorem fn_memB : ((List.range 3).all fun ar => (List.range 2).all fun m => (List.range 2).all fun v => (List.range 2).all fun r => decide ((ar, ([[109], [110]] : List (List Nat)).getD m [], 1 + v, r) ∈ fnLs)) = true := by decide
theorem fn_mem (ar : Nat) (har : ar < 3) (m : Nat) (hm : m < 2) (v : Nat) (hv : v < 2) (r : Nat) (hr : r < 2) : (ar, ([[109], [110]] : List (List Nat)).getD m [], 1 + v, r) ∈ fnLs :=
  of_decide_eq_true (List.all_eq_true.1 (List.all_eq_true.1 (List.all_eq_true.1 (List.all_eq_true.1 fn_memB ar (List.mem_range.2 har)) m (List.mem_range.2 hm)) v (List.mem_range.2 hv)) r (List.mem_range.2 hr))
theorem leaf_fn {a ar : Nat} {m : List Nat} {v r : Nat} (h : (ar, m, v, r) ∈ fnLs) : LF.fn ar m v r ∈ leaves a := by
  simp only [leaves, List.mem_append, List.mem_map]
  exact .inl (.inl (.inr ⟨_, h, rfl⟩))
theorem leaf_wr {a ar : Nat} {m : List Nat} {v r : Nat} (h : (ar, m, v, r) ∈ fnLs) : LF.wr ar m v r ∈ leaves a := by
  simp only [leaves, List.mem_append, List.mem_map]
  exact .inl (.inr ⟨_, h, rfl⟩)
theorem leaf_int {a : Nat} {z : Int} (h : z ∈ ints) : LF.int z ∈ leaves a := by
  simp only [leaves, List.mem_append, List.mem_map]
  exact .inl (.inl (.inl (.inl (.inl (.inl (.inl ⟨_, h, rfl⟩))))))
theorem leaf_str {a : Nat} {t : List Nat} (h : t ∈ wordsT) : LF.str t ∈ leaves a := by
  simp only [leaves, List.mem_append, List.mem_map]
  exact .inl (.inl (.inl (.inl (.inl (.inl (.inr ⟨_, h, rfl⟩))))))
theorem leaf_atom {a : Nat} {t : List Nat} (h : t ∈ atomsT) : LF.atom t ∈ leaves a := by
  simp only [leaves, List.mem_append, List.mem_map]
  exact .inl (.inl (.inl (.inl (.inl (.inr ⟨_, h, rfl⟩)))))
theorem leaf_pid {a n : Nat} (h : n < 4) : LF.pid n ∈ leaves a := by
  simp only [leaves, List.mem_append, List.mem_map]
  refine .inl (.inl (.inl (.inl (.inr ⟨n, ?_, rfl⟩))))
  have : n = 0 ∨ n = 1 ∨ n = 2 ∨ n = 3 := by omega
  rcases this with rfl | rfl | rfl | rfl <;> simp
theorem leaf_nw {a i j : Nat} (hi : i < 3) (hj : j < 2) : LF.nw a (inns.getD i []) (outs.getD j []) ∈ leaves a := by
  simp only [leaves, List.mem_append]
  refine .inr ?_
  have h1 : i = 0 ∨ i = 1 ∨ i = 2 := by omega
  have h2 : j = 0 ∨ j = 1 := by omega
  rcases h1 with rfl | rfl | rfl <;> rcases h2 with rfl | rfl <;> simp [inns, outs]
section
variable [E : Env]
theorem ch_nil {σ : Nat → PV} {lp : PV} {ps : List Nat} : Chain σ lp ps [] := by cases ps <;> trivial
theorem ch_nx {σ : Nat → PV} {lp : PV} {a a' : Nat} {ps : List Nat} {sc : Sc} {n x : Nat} (k : KnownS Tryz.prog 15 33 [lp, I a] [I n] (I x) [lp, I a']) (h : Chain σ lp (a' :: ps) sc) : Chain σ lp (a :: a' :: ps) (nx n x :: sc) :=
  ⟨by simpa only [nx, subL_cons, subL_nil, sub_v] using k, h⟩
theorem ch_mk {σ : Nat → PV} {lp : PV} {a a' : Nat} {ps : List Nat} {sc : Sc} {dep i : Nat} {d : List PV} (k : KnownS Tryz.prog 16 33 [lp, I a] [I dep] (.agg d) [lp, I a']) (hd : subL σ (D i) = d) (h : Chain σ lp (a' :: ps) sc) : Chain σ lp (a :: a' :: ps) (mk dep i :: sc) :=
  ⟨by simpa only [mk, aD, subL_cons, subL_nil, sub_v, sub_agg, hd] using k, h⟩
theorem ch_nr {σ : Nat → PV} {lp : PV} {a a' : Nat} {ps : List Nat} {sc : Sc} {A k dep i : Nat} {d : List PV} (kn : KnownS Tryz.prog 5 33 [lp, I a] [T A, I k, I dep] (.agg d) [lp, I a']) (hd : subL σ (D i) = d) (h : Chain σ lp (a' :: ps) sc) : Chain σ lp (a :: a' :: ps) (nr A k dep i :: sc) :=
  ⟨by simpa only [nr, aD, subL_cons, subL_nil, sub_v, sub_agg, sub_T, hd] using kn, h⟩
theorem ch_key {σ : Nat → PV} {lp : PV} {a a' : Nat} {ps : List Nat} {sc : Sc} {j : Nat} (k : KnownS Tryz.prog 19 33 [lp, I a] [] (.agg (key j)) [lp, I a']) (h : Chain σ lp (a' :: ps) sc) : Chain σ lp (a :: a' :: ps) ((19, [], .agg (key j)) :: sc) :=
  ⟨by simpa only [subL_nil, sub_agg, subL_cells (key_cells j)] using k, h⟩
theorem ch_gen {σ : Nat → PV} {lp : PV} {a a' : Nat} {ps : List Nat} {sc : Sc} {f : Nat} {args : List PV} {q : PV} {args' : List PV} {q' : PV} (k : KnownS Tryz.prog f 33 [lp, I a] args' q' [lp, I a']) (h1 : subL σ args = args') (h2 : sub σ q = q') (h : Chain σ lp (a' :: ps) sc) : Chain σ lp (a :: a' :: ps) ((f, args, q) :: sc) :=
  ⟨by rw [h1, h2]; exact k, h⟩
theorem sub_dComp0 (σ : Nat → PV) (k : Nat) (kids : List (List PV)) : subL σ (dComp k kids []) = dComp k (subE σ kids) [] := sub_dComp σ k kids []
/-- a datum that Made makes at a depth -/
def Md (A n dep : Nat) : Prop := ∀ lp a, SrcL lp → ∃ x a', GD A n x ∧ KnownS Tryz.prog 16 33 [lp, I a] [I dep] (.agg x.d) [lp, I a']
/-- a leaf that wraps nothing -/
def Plain (A : Nat) (y : LF) : Prop := isFn y = none ∨ ∃ ar m v r, y = .fn ar m v r ∧ ar < 3 ∧ LF.wr ar m v r ∈ leaves A
theorem u_made : ∀ dep, dep < 3 → okMade CT dep = true
  | 0, _ => t_made_0
  | 1, _ => t_made_1
  | 2, _ => t_made_2
  | _ + 3, h => by omega
theorem u_madeC : ∀ dep, dep < 2 → okMadeC CT dep = true
  | 0, _ => t_madeC_0
  | 1, _ => t_madeC_1
  | _ + 2, h => by omega
theorem int_mem : ∀ y, y < 5 → Int.ofNat y - 1 ∈ ints
  | 0, _ => by decide
  | 1, _ => by decide
  | 2, _ => by decide
  | 3, _ => by decide
  | 4, _ => by decide
  | _ + 5, h => by omega
theorem getD_mem {α : Type} {l : List α} {y : Nat} {d : α} (h : y < l.length) : l.getD y d ∈ l := by
  rw [List.getD_eq_getElem?_getD, List.getElem?_eq_getElem h]
  exact List.getElem_mem h
theorem madeLeaf (A : Nat) {dep x : Nat} (hdep : dep < 3) (hx : x < 7) {lp : PV} {a a1 : Nat} (hl : SrcL lp) (k : KnownS Tryz.prog 15 33 [lp, I a] [I 12] (I x) [lp, I a1]) :
    ∃ y a', y ∈ leaves A ∧ Plain A y ∧ KnownS Tryz.prog 16 33 [lp, I a] [I dep] (.agg (ld y)) [lp, I a'] := by
  have ht := u_made dep hdep
  simp only [okMade, Bool.and_eq_true] at ht
  obtain ⟨h0, h1, h2, h3, h4, h5, h6⟩ := ht
  have hx : x = 0 ∨ x = 1 ∨ x = 2 ∨ x = 3 ∨ x = 4 ∨ x = 5 ∨ x = 6 := by omega
  rcases hx with rfl | rfl | rfl | rfl | rfl | rfl | rfl
  · obtain ⟨y, a2, hy, k2⟩ := d_next (m := 5) (by omega) (by omega) lp a1 hl
    have := run_use (@e16ok) (List.all_eq_true.1 h0 y (List.mem_range.2 hy)) hl (a := a) (ps := [a1, a2]) (ds := []) (by simp) (a' := a2) rfl (ch_nx k (ch_nx k2 ch_nil)) trivial
    simp only [subL_cons, subL_nil, sub_v, sub_agg, sub_ld] at this
    exact ⟨_, a2, leaf_int (int_mem y hy), .inl rfl, this⟩
  · obtain ⟨y, a2, hy, k2⟩ := d_next (m := 4) (by omega) (by omega) lp a1 hl
    have := run_use (@e16ok) (List.all_eq_true.1 h1 y (List.mem_range.2 hy)) hl (a := a) (ps := [a1, a2]) (ds := []) (by simp) (a' := a2) rfl (ch_nx k (ch_nx k2 ch_nil)) trivial
    simp only [subL_cons, subL_nil, sub_v, sub_agg, sub_ld] at this
    exact ⟨_, a2, leaf_atom (getD_mem (by simpa [atomsT] using hy)), .inl rfl, this⟩
  · obtain ⟨q, a2, ⟨y, hy, rfl⟩, k2⟩ := d_word lp a1 hl
    have := run_use (@e16ok) h2 hl (a := a) (ps := [a1, a2]) (ds := [S (wordsT.getD y [])]) (by simpa using cell_v _) (a' := a2) rfl (ch_nx k (ch_gen k2 rfl (by rw [sub_unk, sg_one (by simp)]) ch_nil)) trivial
    simp only [dFlat, subL_cons, subL_nil, sub_v, sub_agg, sub_unk, sg_one (show [a, a1, a2].length ≤ 19 by simp)] at this
    exact ⟨.str (wordsT.getD y []), a2, leaf_str (getD_mem (by simpa [wordsT] using hy)), .inl rfl, this⟩
  · obtain ⟨y, a2, hy, k2⟩ := d_next (m := 4) (by omega) (by omega) lp a1 hl
    have := run_use (@e16ok) (List.all_eq_true.1 h3 y (List.mem_range.2 hy)) hl (a := a) (ps := [a1, a2]) (ds := []) (by simp) (a' := a2) rfl (ch_nx k (ch_nx k2 ch_nil)) trivial
    simp only [subL_cons, subL_nil, sub_v, sub_agg, sub_ld] at this
    exact ⟨_, a2, leaf_pid hy, .inl rfl, this⟩
  · have := run_use (@e16ok) h4 hl (a := a) (ps := [a1]) (ds := []) (by simp) (a' := a1) rfl (ch_nx k ch_nil) trivial
    simp only [subL_cons, subL_nil, sub_v, sub_agg, sub_ld] at this
    exact ⟨_, a1, nil_in A, .inl rfl, this⟩
  · obtain ⟨ar, a2, har, k2⟩ := d_next (m := 3) (by omega) (by omega) lp a1 hl
    obtain ⟨m, a3, hm, k3⟩ := d_next (m := 2) (by omega) (by omega) lp a2 hl
    obtain ⟨v, a4, hv, k4⟩ := d_next (m := 2) (by omega) (by omega) lp a3 hl
    obtain ⟨r, a5, hr, k5⟩ := d_next (m := 2) (by omega) (by omega) lp a4 hl
    have hh := List.all_eq_true.1 (List.all_eq_true.1 (List.all_eq_true.1 (List.all_eq_true.1 h5 ar (List.mem_range.2 har)) m (List.mem_range.2 hm)) v (List.mem_range.2 hv)) r (List.mem_range.2 hr)
    have := run_use (@e16ok) hh hl (a := a) (ps := [a1, a2, a3, a4, a5]) (ds := []) (by simp) (a' := a5) rfl (ch_nx k (ch_nx k2 (ch_nx k3 (ch_nx k4 (ch_nx k5 ch_nil))))) trivial
    simp only [subL_cons, subL_nil, sub_v, sub_agg, sub_ld] at this
    have hmem := fn_mem ar har m hm v hv r hr
    exact ⟨_, a5, leaf_fn hmem, .inr ⟨_, _, _, _, rfl, har, leaf_wr hmem⟩, this⟩
  · obtain ⟨q, a2, ⟨y, hy, rfl⟩, k2⟩ := d_number lp a1 hl
    have := run_use (@e16ok) h6 hl (a := a) (ps := [a1, a2]) (ds := [.v (.int .i64 (ints.getD y 0))]) (by simpa using cell_v _) (a' := a2) rfl (ch_nx k (ch_gen k2 rfl (by rw [sub_unk, sg_one (by simp)]) ch_nil)) trivial
    simp only [dFlat, subL_cons, subL_nil, sub_v, sub_agg, sub_unk, sg_one (show [a, a1, a2].length ≤ 19 by simp)] at this
    exact ⟨.int (ints.getD y 0), a2, leaf_int (getD_mem (by simpa [ints] using hy)), .inl rfl, this⟩
theorem made0 (A : Nat) : ∀ lp a, SrcL lp → ∃ y a', y ∈ leaves A ∧ Plain A y ∧ KnownS Tryz.prog 16 33 [lp, I a] [I 0] (.agg (ld y)) [lp, I a'] := by
  intro lp a hl
  obtain ⟨x, a1, hx, k⟩ := d_next (m := 12) (by omega) (by omega) lp a hl
  by_cases h7 : x < 7
  · exact madeLeaf A (by omega) h7 hl k
  · obtain ⟨y, a2, hy, k2⟩ := d_next (m := 5) (by omega) (by omega) lp a1 hl
    have hh := List.all_eq_true.1 (List.all_eq_true.1 t_made0 (x - 7) (List.mem_range.2 (by omega))) y (List.mem_range.2 hy)
    rw [show x - 7 + 7 = x by omega] at hh
    have := run_use (@e16ok) hh hl (a := a) (ps := [a1, a2]) (ds := []) (by simp) (a' := a2) rfl (ch_nx k (ch_nx k2 ch_nil)) trivial
    simp only [subL_cons, subL_nil, sub_v, sub_agg, sub_ld] at this
    exact ⟨_, a2, leaf_int (int_mem y hy), .inl rfl, this⟩
theorem md0 (A : Nat) : Md A 0 0 := by
  intro lp a hl
  obtain ⟨y, a', h1, _, h2⟩ := made0 A lp a hl
  exact ⟨lx A y, a', .leaf h1, h2⟩
/-! ### maps -/
theorem sub_mapD (σ : Nat → PV) (l : List (Nat × List PV)) : subL σ (mapD l) = mapD (l.map fun x => (x.1, subL σ x.2)) := by
  unfold mapD
  rw [sub_dComp, subE_map]
  simp only [List.map_map]
  rfl
theorem sub_ins (σ : Nat → PV) (k : Nat) (x : List PV) : ∀ (l : List (Nat × List PV)), (ins k x l).map (fun x => (x.1, subL σ x.2)) = ins k (subL σ x) (l.map fun x => (x.1, subL σ x.2))
  | [] => rfl
  | (j, y) :: r => by
    simp only [ins, List.map_cons]
    cases Nat.blt k j
    · cases Nat.beq k j
      · simp only [cond_false, List.map_cons, sub_ins σ k x r]
      · rfl
    · rfl
theorem put_use {k : Nat} (hk : k < 8) {x : List PV} (hx : x.length = 13) (hc : ∀ c ∈ x, Cell c) {l : List (Nat × List PV)} (hl : l = [] ∨ ∃ j y, j < 8 ∧ y.length = 13 ∧ (∀ c ∈ y, Cell c) ∧ l = [(j, y)]) :
    Known Tryz.prog 18 [.agg (mapD l), .agg (key k), .agg x] (.tup [.agg (mapD (ins k x l)), Bo true]) := by
  have ht := t_put
  rcases hl with rfl | ⟨j, y, hj, hy, hcy, rfl⟩
  · have e : subL (pick x) (ur 0 13) = x := subL_at (pre := []) (post := []) (by simp) rfl hx
    have := cx_use (fit_pick hc) (@e18ok) (List.all_eq_true.1 (List.all_eq_true.1 ht [] (by simp [olds])) k (List.mem_range.2 hk)) trivial
    simp only [subL_cons, subL_nil, sub_agg, sub_tup, sub_v, sub_mapD, sub_ins, List.map_nil, subL_cells (key_cells k), e] at this
    exact this
  · have e : subL (pick (x ++ y)) (ur 0 13) = x := subL_at (pre := []) (post := y) (by simp) rfl hx
    have e2 : subL (pick (x ++ y)) (ur 13 13) = y := subL_at (pre := x) (post := []) (by simp) hx.symm hy
    have hm : [(j, ur 13 13)] ∈ olds := by
      unfold olds
      exact List.mem_cons_of_mem _ (List.mem_map.2 ⟨j, List.mem_range.2 hj, rfl⟩)
    have := cx_use (fit_pick (cells_app hc hcy)) (@e18ok) (List.all_eq_true.1 (List.all_eq_true.1 ht _ hm) k (List.mem_range.2 hk)) trivial
    simp only [subL_cons, subL_nil, sub_agg, sub_tup, sub_v, sub_mapD, sub_ins, List.map_cons, List.map_nil, subL_cells (key_cells k), e, e2] at this
    exact this
theorem shapes81 : ∀ j, j < 8 → (8, 1, [j]) ∈ shapes := by decide
theorem shapes82B : ((List.range 8).all fun j => (List.range 8).all fun k => !Nat.blt j k || decide ((8, 2, [j, k]) ∈ shapes)) = true := by decide
theorem shapes82 (j : Nat) (hj : j < 8) (k : Nat) (hk : k < 8) (h : j < k) : (8, 2, [j, k]) ∈ shapes := by
  have := List.all_eq_true.1 (List.all_eq_true.1 shapes82B j (List.mem_range.2 hj)) k (List.mem_range.2 hk)
  have hb : Nat.blt j k = true := Nat.ble_eq_true_of_le h
  rw [hb] at this
  exact of_decide_eq_true this
theorem GD.map1 {A n j : Nat} (hj : j < 8) {x : X} (h : GD A n x) : ∃ z, GD A (n + 1) z ∧ z.d = mapD [(j, x.d)] :=
  ⟨cx A (8, 1, [j]) [x], .comp (shapes81 j hj) rfl (by simpa using h) (by simp), rfl⟩
theorem GD.map2 {A n j k : Nat} (hj : j < 8) (hk : k < 8) {x y : X} (h : GD A n x) (g : GD A n y) : ∃ z, GD A (n + 1) z ∧ z.d = mapD (ins k y.d [(j, x.d)]) := by
  by_cases h1 : k < j
  · refine ⟨cx A (8, 2, [k, j]) [y, x], .comp (shapes82 k hk j hj h1) rfl (by intro z hz; simp at hz; rcases hz with rfl | rfl <;> assumption) (by simp), ?_⟩
    have : Nat.blt k j = true := Nat.ble_eq_true_of_le h1
    simp only [ins, this, cond_true]
    rfl
  · have hb : Nat.blt k j = false := by rw [Bool.eq_false_iff]; intro e; exact h1 (Nat.le_of_ble_eq_true e)
    by_cases h2 : k = j
    · subst h2
      refine ⟨cx A (8, 1, [k]) [y], .comp (shapes81 k hk) rfl (by simpa using g) (by simp), ?_⟩
      simp only [ins, hb, cond_false, Nat.beq_refl, cond_true]
      rfl
    · refine ⟨cx A (8, 2, [j, k]) [x, y], .comp (shapes82 j hj k hk (by omega)) rfl (by intro z hz; simp at hz; rcases hz with rfl | rfl <;> assumption) (by simp), ?_⟩
      have hq : Nat.beq k j = false := by rw [Bool.eq_false_iff]; intro e; exact h2 (Nat.eq_of_beq_eq_true e)
      simp only [ins, hb, hq, cond_false]
      rfl
theorem GD.cons {A n m : Nat} {x t : X} (h : GD A n x) (g : GD A m t) {κ : Nat} {r : List PV} (hκ : κ = 5 ∨ κ = 7) (hr : t.v = I κ :: r) : ∃ z, GD A (max n m + 1) z ∧ z.d = dComp 7 [x.d, t.d] [] ∧ ∃ r, z.v = I 7 :: r :=
  ⟨cx A (7, 2, []) [x, t], .comp (by decide) rfl (by intro z hz; simp at hz; rcases hz with rfl | rfl; exact h.up (Nat.le_max_left _ _); exact g.up (Nat.le_max_right _ _)) (fun _ => ⟨t, κ, r, rfl, hκ, hr⟩), rfl, _, rfl⟩
theorem GD.nil (A n : Nat) : ∃ z : X, GD A n z ∧ z.d = nil13 ∧ ∃ r, z.v = I 5 :: r := ⟨lx A .nil, .leaf (nil_in A), rfl, _, rfl⟩
theorem madeC_cell (ar : Nat) : Cell (madeC ar) := (ld_cells (.wr ar [] 0 0)).1 (madeC ar) (by simp [ld, dWr])
theorem sub_tl {σ : Nat → PV} {i κ : Nat} {r : List PV} (h : subL σ (D i) = I κ :: r) : subL σ (tl κ (D i)) = I κ :: r := by
  have e : D i = .unk (20 + 13 * i) :: ur (20 + 13 * i + 1) 12 := rfl
  rw [e] at h ⊢
  rw [subL_cons] at h
  show subL σ (I κ :: ur (20 + 13 * i + 1) 12) = _
  rw [subL_cons, sub_v]
  injection h with _ h
  rw [h]
theorem sg_D2 {lp : PV} {ps : List Nat} {d e f post : List PV} (hps : ps.length ≤ 19) (hd : d.length = 13) (he : e.length = 13) (hf : f.length = 13) : subL (sg lp ps (d ++ (e ++ (f ++ post)))) (D 2) = f := by
  have := sg_ur (lp := lp) (ps := ps) (pre := d ++ e) (k := f) (post := post) hps (b := 46) (n := 13) (by simp [hd, he]) hf
  rw [List.append_assoc] at this
  exact this
theorem madeStep {A n dep : Nat} (hA : A < 8) (hdep : dep < 2) (ih : Md A n dep) : Md A (n + 2) (dep + 1) := by
  intro lp a hl
  have ht := u_madeC dep hdep
  simp only [okMadeC, Bool.and_eq_true] at ht
  obtain ⟨h7, h7f, h8, h10, h10b, h110, h111, h112⟩ := ht
  obtain ⟨x, a1, hx, k⟩ := d_next (m := 12) (by omega) (by omega) lp a hl
  by_cases hx7 : x < 7
  · obtain ⟨y, a', g1, _, g2⟩ := madeLeaf A (dep := dep + 1) (by omega) hx7 hl k
    exact ⟨lx A y, a', .leaf g1, g2⟩
  have hx : x = 7 ∨ (x = 8 ∨ x = 9) ∨ x = 10 ∨ x = 11 := by omega
  rcases hx with rfl | hx89 | rfl | rfl
  · obtain ⟨y, a2, hy, hp, k2⟩ := made0 A lp a1 hl
    rcases hp with hp | ⟨ar, m, v, r, rfl, har, hw⟩
    · have hκ : ∃ κ r, κ < 9 ∧ ld y = I κ :: r := by
        cases y <;> first | exact ⟨1, _, by omega, rfl⟩ | exact ⟨2, _, by omega, rfl⟩ | exact ⟨3, _, by omega, rfl⟩ | exact ⟨4, _, by omega, rfl⟩ | exact ⟨5, _, by omega, rfl⟩ | (simp [isFn] at hp)
      obtain ⟨κ, r, hκ, he⟩ := hκ
      have e : subL (sg lp [a, a1, a2] (ld y ++ [])) (tl κ (D 0)) = ld y := by
        have := sg_D0 (lp := lp) (ps := [a, a1, a2]) (d := ld y) (post := []) (by simp) (ld_cells y).2.2.1
        rw [he] at this ⊢
        exact sub_tl this
      have := run_use (@e16ok) (List.all_eq_true.1 h7 κ (List.mem_range.2 hκ)) hl (a := a) (ps := [a1, a2]) (ds := ld y ++ []) (by simpa using (ld_cells y).1) (a' := a2) rfl (ch_nx k (ch_gen k2 (by simp only [subL_cons, subL_nil, sub_v]) (by rw [sub_agg, e]) ch_nil)) trivial
      simp only [subL_cons, subL_nil, sub_v, sub_agg, e] at this
      exact ⟨lx A y, a2, .leaf hy, this⟩
    · have hlen : ((dFun ar m v r).drop 2).length = 11 := rfl
      have hdc : ∀ c ∈ (dFun ar m v r).drop 2, Cell c := fun c hc => (ld_cells (.fn ar m v r)).1 c (List.mem_of_mem_drop hc)
      have e : subL (sg lp [a, a1, a2] ((dFun ar m v r).drop 2)) (ur 20 11) = (dFun ar m v r).drop 2 := by
        have := sg_ur (lp := lp) (ps := [a, a1, a2]) (pre := []) (k := (dFun ar m v r).drop 2) (post := []) (by simp) (b := 20) (n := 11) rfl hlen
        simpa using this
      have e' : subL (sg lp [a, a1, a2] ((dFun ar m v r).drop 2)) (I 9 :: I ar :: ur 20 11) = dFun ar m v r := by
        rw [subL_cons, subL_cons, sub_v, sub_v, e]; rfl
      have := run_use (@e16ok) (List.all_eq_true.1 h7f ar (List.mem_range.2 har)) hl (a := a) (ps := [a1, a2]) (ds := (dFun ar m v r).drop 2) hdc (a' := a2) rfl (ch_nx k (ch_gen k2 (by simp only [subL_cons, subL_nil, sub_v]) (by rw [sub_agg, e']; rfl) ch_nil)) trivial
      simp only [dWr, subL_cons, subL_nil, sub_v, sub_agg, sub_slO, subE_cons, subE_nil, sub_cell (madeC_cell ar), e] at this
      exact ⟨lx A (.wr ar m v r), a2, .leaf hw, this⟩
  · obtain ⟨m, a2, hm, k2⟩ := d_next (m := 4) (by omega) (by omega) lp a1 hl
    have hh := List.all_eq_true.1 (List.all_eq_true.1 h8 x (by rcases hx89 with rfl | rfl <;> simp)) m (List.mem_range.2 hm)
    have hm : m = 0 ∨ m = 1 ∨ m = 2 ∨ m = 3 := by omega
    rcases hm with rfl | rfl | rfl | rfl
    · have := run_use (@e16ok) hh hl (a := a) (ps := [a1, a2]) (ds := []) (by simp) (a' := a2) rfl (ch_nx k (ch_nx k2 ch_nil)) trivial
      simp only [List.range_zero, List.map_nil, subL_cons, subL_nil, sub_v, sub_agg, sub_dComp0, subE_nil] at this
      exact ⟨cx A (6, 0, []) [], a2, .comp (by decide) rfl (by simp) (by simp), this⟩
    · obtain ⟨x0, a3, g0, k3⟩ := ih lp a2 hl
      have f0 := g0.fact hA
      have e0 : subL (sg lp [a, a1, a2, a3] (x0.d ++ [])) (D 0) = x0.d := sg_D0 (by simp) f0.dl
      have := run_use (@e16ok) hh hl (a := a) (ps := [a1, a2, a3]) (ds := x0.d ++ []) (by simpa using f0.dc) (a' := a3) rfl (ch_nx k (ch_nx k2 (ch_mk k3 e0 ch_nil))) trivial
      simp only [show (List.range 1).map D = [D 0] from rfl, subL_cons, subL_nil, sub_v, sub_agg, sub_dComp0, subE_cons, subE_nil, e0] at this
      exact ⟨cx A (6, 1, []) [x0], a3, .comp (by decide) rfl (by intro z hz; simp at hz; subst hz; exact g0.up (by omega)) (by simp), this⟩
    · obtain ⟨x0, a3, g0, k3⟩ := ih lp a2 hl
      obtain ⟨x1, a4, g1, k4⟩ := ih lp a3 hl
      have f0 := g0.fact hA
      have f1 := g1.fact hA
      have e0 : subL (sg lp [a, a1, a2, a3, a4] (x0.d ++ (x1.d ++ []))) (D 0) = x0.d := sg_D0 (by simp) f0.dl
      have e1 : subL (sg lp [a, a1, a2, a3, a4] (x0.d ++ (x1.d ++ []))) (D 1) = x1.d := sg_D1 (by simp) f0.dl f1.dl
      have := run_use (@e16ok) hh hl (a := a) (ps := [a1, a2, a3, a4]) (ds := x0.d ++ (x1.d ++ [])) (cells_app f0.dc (by simpa using f1.dc)) (a' := a4) rfl (ch_nx k (ch_nx k2 (ch_mk k3 e0 (ch_mk k4 e1 ch_nil)))) trivial
      simp only [show (List.range 2).map D = [D 0, D 1] from rfl, subL_cons, subL_nil, sub_v, sub_agg, sub_dComp0, subE_cons, subE_nil, e0, e1] at this
      exact ⟨cx A (6, 2, []) [x0, x1], a4, .comp (by decide) rfl (by intro z hz; simp at hz; rcases hz with rfl | rfl; exact g0.up (by omega); exact g1.up (by omega)) (by simp), this⟩
    · obtain ⟨x0, a3, g0, k3⟩ := ih lp a2 hl
      obtain ⟨x1, a4, g1, k4⟩ := ih lp a3 hl
      obtain ⟨x2, a5, g2, k5⟩ := ih lp a4 hl
      have f0 := g0.fact hA
      have f1 := g1.fact hA
      have f2 := g2.fact hA
      have e0 : subL (sg lp [a, a1, a2, a3, a4, a5] (x0.d ++ (x1.d ++ (x2.d ++ [])))) (D 0) = x0.d := sg_D0 (by simp) f0.dl
      have e1 : subL (sg lp [a, a1, a2, a3, a4, a5] (x0.d ++ (x1.d ++ (x2.d ++ [])))) (D 1) = x1.d := sg_D1 (by simp) f0.dl f1.dl
      have e2 : subL (sg lp [a, a1, a2, a3, a4, a5] (x0.d ++ (x1.d ++ (x2.d ++ [])))) (D 2) = x2.d := sg_D2 (by simp) f0.dl f1.dl f2.dl
      have := run_use (@e16ok) hh hl (a := a) (ps := [a1, a2, a3, a4, a5]) (ds := x0.d ++ (x1.d ++ (x2.d ++ []))) (cells_app f0.dc (cells_app f1.dc (by simpa using f2.dc))) (a' := a5) rfl (ch_nx k (ch_nx k2 (ch_mk k3 e0 (ch_mk k4 e1 (ch_mk k5 e2 ch_nil))))) trivial
      simp only [show (List.range 3).map D = [D 0, D 1, D 2] from rfl, subL_cons, subL_nil, sub_v, sub_agg, sub_dComp0, subE_cons, subE_nil, e0, e1, e2] at this
      exact ⟨cx A (6, 3, []) [x0, x1, x2], a5, .comp (by decide) rfl (by intro z hz; simp at hz; rcases hz with rfl | rfl | rfl; exact g0.up (by omega); exact g1.up (by omega); exact g2.up (by omega)) (by simp), this⟩
  · obtain ⟨y, a2, hy, k2⟩ := d_next (m := 2) (by omega) (by omega) lp a1 hl
    have hn13 : ∀ σ, subL σ nil13 = nil13 := fun σ => sub_ld σ .nil
    obtain ⟨z0, gz, dz, r, vz⟩ := GD.nil A n
    have hy : y = 0 ∨ y = 1 := by omega
    rcases hy with rfl | rfl
    · obtain ⟨x0, a3, g0, k3⟩ := ih lp a2 hl
      have f0 := g0.fact hA
      have e0 : subL (sg lp [a, a1, a2, a3] (x0.d ++ [])) (D 0) = x0.d := sg_D0 (by simp) f0.dl
      have := run_use (@e16ok) h10 hl (a := a) (ps := [a1, a2, a3]) (ds := x0.d ++ []) (by simpa using f0.dc) (a' := a3) rfl (ch_nx k (ch_nx k2 (ch_mk k3 e0 ch_nil))) trivial
      simp only [subL_cons, subL_nil, sub_v, sub_agg, sub_dComp0, subE_cons, subE_nil, e0, hn13] at this
      obtain ⟨z1, gz1, dz1, _⟩ := g0.cons gz (.inl rfl) vz
      rw [← dz, ← dz1] at this
      exact ⟨z1, a3, gz1.up (by omega), this⟩
    · obtain ⟨x0, a3, g0, k3⟩ := ih lp a2 hl
      obtain ⟨x1, a4, g1, k4⟩ := ih lp a3 hl
      have f0 := g0.fact hA
      have f1 := g1.fact hA
      have e0 : subL (sg lp [a, a1, a2, a3, a4] (x0.d ++ (x1.d ++ []))) (D 0) = x0.d := sg_D0 (by simp) f0.dl
      have e1 : subL (sg lp [a, a1, a2, a3, a4] (x0.d ++ (x1.d ++ []))) (D 1) = x1.d := sg_D1 (by simp) f0.dl f1.dl
      have := run_use (@e16ok) h10b hl (a := a) (ps := [a1, a2, a3, a4]) (ds := x0.d ++ (x1.d ++ [])) (cells_app f0.dc (by simpa using f1.dc)) (a' := a4) rfl (ch_nx k (ch_nx k2 (ch_mk k3 e0 (ch_mk k4 e1 ch_nil)))) trivial
      simp only [subL_cons, subL_nil, sub_v, sub_agg, sub_dComp0, subE_cons, subE_nil, e0, e1, hn13] at this
      obtain ⟨z1, gz1, dz1, r1, vz1⟩ := g0.cons gz (.inl rfl) vz
      obtain ⟨z2, gz2, dz2, _⟩ := g1.cons gz1 (.inr rfl) vz1
      rw [← dz, ← dz1, ← dz2] at this
      exact ⟨z2, a4, gz2.up (by omega), this⟩
  · obtain ⟨y, a2, hy, k2⟩ := d_next (m := 3) (by omega) (by omega) lp a1 hl
    have hy : y = 0 ∨ y = 1 ∨ y = 2 := by omega
    rcases hy with rfl | rfl | rfl
    · have := run_use (@e16ok) h110 hl (a := a) (ps := [a1, a2]) (ds := []) (by simp) (a' := a2) rfl (ch_nx k (ch_nx k2 ch_nil)) trivial
      simp only [List.map_nil, subL_cons, subL_nil, sub_v, sub_agg, sub_mapD] at this
      exact ⟨cx A (8, 0, []) [], a2, .comp (by decide) rfl (by simp) (by simp), this⟩
    · obtain ⟨j, a3, hj, k3⟩ := d_key lp a2 hl
      obtain ⟨x0, a4, g0, k4⟩ := ih lp a3 hl
      have f0 := g0.fact hA
      have e0 : subL (sg lp [a, a1, a2, a3, a4] (x0.d ++ [])) (D 0) = x0.d := sg_D0 (by simp) f0.dl
      have hB : BookOk Tryz.prog (subB (sg lp [a, a1, a2, a3, a4] (x0.d ++ [])) [(18, [putE [] j (D 0)])]) := by
        simp only [putE, subB_cons, subB_nil, subP_cons, subP_nil, subL_cons, subL_nil, sub_agg, sub_tup, sub_v, sub_mapD, sub_ins, List.map_nil, subL_cells (key_cells j), e0]
        exact ⟨⟨put_use hj f0.dl f0.dc (.inl rfl), trivial⟩, trivial⟩
      have := run_use (@e16ok) (List.all_eq_true.1 h111 j (List.mem_range.2 hj)) hl (a := a) (ps := [a1, a2, a3, a4]) (ds := x0.d ++ []) (by simpa using f0.dc) (a' := a4) rfl (ch_nx k (ch_nx k2 (ch_key k3 (ch_mk k4 e0 ch_nil)))) hB
      simp only [List.map_cons, List.map_nil, subL_cons, subL_nil, sub_v, sub_agg, sub_mapD, e0] at this
      obtain ⟨z, gz, dz⟩ := g0.map1 hj
      rw [← dz] at this
      exact ⟨z, a4, gz.up (by omega), this⟩
    · obtain ⟨j, a3, hj, k3⟩ := d_key lp a2 hl
      obtain ⟨x0, a4, g0, k4⟩ := ih lp a3 hl
      obtain ⟨j2, a5, hj2, k5⟩ := d_key lp a4 hl
      obtain ⟨x1, a6, g1, k6⟩ := ih lp a5 hl
      have f0 := g0.fact hA
      have f1 := g1.fact hA
      have e0 : subL (sg lp [a, a1, a2, a3, a4, a5, a6] (x0.d ++ (x1.d ++ []))) (D 0) = x0.d := sg_D0 (by simp) f0.dl
      have e1 : subL (sg lp [a, a1, a2, a3, a4, a5, a6] (x0.d ++ (x1.d ++ []))) (D 1) = x1.d := sg_D1 (by simp) f0.dl f1.dl
      have hB : BookOk Tryz.prog (subB (sg lp [a, a1, a2, a3, a4, a5, a6] (x0.d ++ (x1.d ++ []))) [(18, [putE [] j (D 0), putE [(j, D 0)] j2 (D 1)])]) := by
        simp only [putE, subB_cons, subB_nil, subP_cons, subP_nil, subL_cons, subL_nil, sub_agg, sub_tup, sub_v, sub_mapD, sub_ins, List.map_cons, List.map_nil, subL_cells (key_cells j), subL_cells (key_cells j2), e0, e1]
        exact ⟨⟨put_use hj f0.dl f0.dc (.inl rfl), put_use hj2 f1.dl f1.dc (.inr ⟨j, x0.d, hj, f0.dl, f0.dc, rfl⟩), trivial⟩, trivial⟩
      have := run_use (@e16ok) (List.all_eq_true.1 (List.all_eq_true.1 h112 j (List.mem_range.2 hj)) j2 (List.mem_range.2 hj2)) hl (a := a) (ps := [a1, a2, a3, a4, a5, a6]) (ds := x0.d ++ (x1.d ++ [])) (cells_app f0.dc (by simpa using f1.dc)) (a' := a6) rfl (ch_nx k (ch_nx k2 (ch_key k3 (ch_mk k4 e0 (ch_key k5 (ch_mk k6 e1 ch_nil)))))) hB
      simp only [List.map_cons, List.map_nil, subL_cons, subL_nil, sub_v, sub_agg, sub_mapD, sub_ins, e0, e1] at this
      obtain ⟨z, gz, dz⟩ := g0.map2 hj hj2 g1
      rw [← dz] at this
      exact ⟨z, a6, gz.up (by omega), this⟩
theorem md1 {A : Nat} (hA : A < 8) : Md A 2 1 := madeStep hA (by omega) (md0 A)
theorem md2 {A : Nat} (hA : A < 8) : Md A 4 2 := madeStep hA (by omega) (md1 hA)
end
end Go.Ev.B
