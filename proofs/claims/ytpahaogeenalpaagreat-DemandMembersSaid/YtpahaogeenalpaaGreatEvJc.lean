/- Comparing: one way round is the other's opposite. -/
import Derived.Test.YtpahaogeenalpaaGreatEvJb
import Derived.Test.YtpahaogeenalpaaGreatEvFe
import Derived.Test.YtpahaogeenalpaaGreatEvFf
set_option linter.all false
/- Comparing: one way round is the other's opposite. -/
namespace Go.Ev.D
open Go.Proofs
theorem mem_S3 {c : Int} (h : c = -1 ∨ c = 0 ∨ c = 1) : c ∈ S3 := by rcases h with rfl | rfl | rfl <;> decide
theorem of_S3 {c : Int} (h : c ∈ S3) : c = -1 ∨ c = 0 ∨ c = 1 := by simpa [S3] using h
theorem sgn_S3 (a b : Int) : sgn a b ∈ S3 := by unfold sgn; split; · decide
                                                split <;> decide
theorem sgn_neg (a b : Int) : sgn b a = - sgn a b := by
  unfold sgn
  by_cases h1 : a < b <;> by_cases h2 : b < a <;> simp [h1, h2] <;> omega
theorem fst3_S3 : ∀ {cs : List Int}, (∀ c ∈ cs, c ∈ S3) → fst3 cs ∈ S3
  | [], _ => by decide
  | c :: cs, h => by
    unfold fst3
    split
    · exact fst3_S3 fun x hx => h x (by simp [hx])
    · exact h c (by simp)
theorem fst3_neg : ∀ (cs : List Int), fst3 (cs.map fun c => -c) = - fst3 cs
  | [] => rfl
  | c :: cs => by
    have := fst3_neg cs
    unfold fst3
    simp only [List.map_cons]
    by_cases h : c = 0
    · subst h; simpa using this
    · rw [if_neg h, if_neg (by omega)]
theorem neg_S3 {c : Int} (h : c ∈ S3) : -c ∈ S3 := by rcases of_S3 h with rfl | rfl | rfl <;> decide
theorem lab_S3 : ∀ a ∈ labels, ∀ b ∈ labels, labCmp a b ∈ S3 ∧ labCmp b a = - labCmp a b := by decide
theorem key_S3 : ∀ a ∈ keys, ∀ b ∈ keys, keyCmp a b ∈ S3 ∧ keyCmp b a = - keyCmp a b := by decide
theorem nums_sg : ∀ a ∈ nums, ∀ b ∈ nums, sgnP a b ∈ S3 ∧ sgnP b a = - sgnP a b := by decide
theorem nums_eq (a : PV) (ha : a ∈ nums) (b : PV) (hb : b ∈ nums) : (sgnP a b = 0 → a = b) ∧ sgnP a b ∈ S3 ∧ sgnP b a = - sgnP a b := by
  refine ⟨?_, nums_sg a ha b hb⟩
  simp only [nums, List.mem_cons, List.not_mem_nil, or_false] at ha hb
  rcases ha with rfl | rfl | rfl | rfl | rfl | rfl | rfl | rfl | rfl | rfl <;> rcases hb with rfl | rfl | rfl | rfl | rfl | rfl | rfl | rfl | rfl | rfl <;> first | (intro _; rfl) | (intro h; exact absurd h (by decide))
theorem pids_sg : ∀ a ∈ pids, ∀ b ∈ pids, sgnP a b ∈ S3 ∧ sgnP b a = - sgnP a b := by decide
theorem pids_eq (a : PV) (ha : a ∈ pids) (b : PV) (hb : b ∈ pids) : (sgnP a b = 0 → a = b) ∧ sgnP a b ∈ S3 ∧ sgnP b a = - sgnP a b := by
  refine ⟨?_, pids_sg a ha b hb⟩
  simp only [pids, List.mem_cons, List.not_mem_nil, or_false] at ha hb
  rcases ha with rfl | rfl | rfl <;> rcases hb with rfl | rfl | rfl <;> first | (intro _; rfl) | (intro h; exact absurd h (by decide))
theorem words_sg : ∀ a ∈ words, ∀ b ∈ words, sgnP a b ∈ S3 ∧ sgnP b a = - sgnP a b := by decide
theorem words_eq (a : PV) (ha : a ∈ words) (b : PV) (hb : b ∈ words) : (sgnP a b = 0 → a = b) ∧ sgnP a b ∈ S3 ∧ sgnP b a = - sgnP a b := by
  refine ⟨?_, words_sg a ha b hb⟩
  simp only [words, List.mem_cons, List.not_mem_nil, or_false] at ha hb
  rcases ha with rfl | rfl | rfl | rfl <;> rcases hb with rfl | rfl | rfl | rfl <;> first | (intro _; rfl) | (intro h; exact absurd h (by decide))
theorem atoms_sg : ∀ a ∈ atoms, ∀ b ∈ atoms, sgnP a b ∈ S3 ∧ sgnP b a = - sgnP a b := by decide
theorem atoms_eq (a : PV) (ha : a ∈ atoms) (b : PV) (hb : b ∈ atoms) : (sgnP a b = 0 → a = b) ∧ sgnP a b ∈ S3 ∧ sgnP b a = - sgnP a b := by
  refine ⟨?_, atoms_sg a ha b hb⟩
  simp only [atoms, List.mem_cons, List.not_mem_nil, or_false] at ha hb
  rcases ha with rfl | rfl | rfl | rfl <;> rcases hb with rfl | rfl | rfl | rfl <;> first | (intro _; rfl) | (intro h; exact absurd h (by decide))
section
variable [E : Env]
/-- the function f answers the one way round, and the opposite the other way round -/
def CC (f : Nat) (x y : PV) : Prop := ∃ c, c ∈ S3 ∧ Known Tryz.prog f [x, y] (num c) ∧ Known Tryz.prog f [y, x] (num (-c))
theorem CC.mk' {f : Nat} {x y : PV} {c d : Int} (hc : c ∈ S3) (hd : d = -c) (h1 : Known Tryz.prog f [x, y] (num c)) (h2 : Known Tryz.prog f [y, x] (num d)) : CC f x y := ⟨c, hc, h1, by rw [← hd]; exact h2⟩
theorem CC.flip {f : Nat} {x y : PV} (h : CC f x y) : CC f y x := by
  obtain ⟨c, h1, h2, h3⟩ := h
  exact ⟨-c, neg_S3 h1, h3, by rw [Int.neg_neg]; exact h2⟩
theorem choose_cs {f : Nat} : ∀ {ks js : List (List PV)}, ks.length = js.length → (∀ x ∈ ks.zip js, CC f (.agg x.1) (.agg x.2)) → ∃ cs : List Int, cs.length = ks.length ∧ (∀ c ∈ cs, c ∈ S3) ∧ PageOk Tryz.prog f (keyPg.pg2 ks js cs) ∧ PageOk Tryz.prog f (keyPg.pg2 js ks (cs.map fun c => -c))
  | [], [], _, _ => ⟨[], rfl, by simp, trivial, trivial⟩
  | [], _ :: _, h, _ => by simp at h
  | _ :: _, [], h, _ => by simp at h
  | k :: ks, j :: js, hl, h => by
    obtain ⟨c, h1, h2, h3⟩ := h (k, j) (by simp)
    obtain ⟨cs, g1, g2, g3, g4⟩ := choose_cs (ks := ks) (js := js) (by simpa using hl) fun x hx => h x (by simp [hx])
    exact ⟨c :: cs, by simp [g1], by
      intro x hx
      rcases List.mem_cons.1 hx with rfl | hx
      · exact h1
      · exact g2 x hx, ⟨h2, g3⟩, ⟨h3, g4⟩⟩
theorem subP_pg2 (σ : Nat → PV) : ∀ (us vs : List (List PV)) (cs : List Int), subP σ (keyPg.pg2 us vs cs) = keyPg.pg2 (subE σ us) (subE σ vs) cs
  | [], _, _ => by simp only [keyPg.pg2, subP, subE_nil]
  | _ :: _, [], _ => by simp only [keyPg.pg2, subP, subE_nil, subE_cons]
  | _ :: _, _ :: _, [] => by simp only [keyPg.pg2, subP, subE_cons]
  | u :: us, v :: vs, c :: cs => by simp only [keyPg.pg2, subP, subE_cons, subP_pg2 σ us vs cs, pair, subL_cons, subL_nil, sub_agg, sub_v]
theorem sub_pair (σ : Nat → PV) (a b : List PV) : subL σ (pair a b) = pair (subL σ a) (subL σ b) := by simp only [pair, subL_cons, subL_nil, sub_agg]
/-- lists of values -/
theorem vals_one {ks js : List (List PV)} (h1 : Seven ks) (h2 : Seven js) (c1 : ∀ k ∈ ks, ∀ c ∈ k, Cell c) (c2 : ∀ k ∈ js, ∀ c ∈ k, Cell c) (hl : ks.length = js.length) (hn : ks.length ≤ 3) {cs : List Int} (hc : cs.length = ks.length) (hs : ∀ c ∈ cs, c ∈ S3)
    (hp : PageOk Tryz.prog 103 (keyPg.pg2 ks js cs)) : Known Tryz.prog 151 [slOf ks, slOf js] (num (fst3 cs)) := by
  have h0 : okVals ks.length = true := by
    match hl : ks.length, hn with
    | 0, _ => exact t_okVals_0
    | 1, _ => exact t_okVals_1
    | 2, _ => exact t_okVals_2
    | 3, _ => exact t_okVals_3
  unfold okVals at h0
  have h3 := List.all_eq_true.1 h0 cs (by rw [← hc]; exact mem_cube hs)
  have e1 : subE (pick (ks.flatten ++ (js.flatten ++ []))) (Us 0 ks.length) = ks := subE_Us _ h1
  have e2 : subE (pick (ks.flatten ++ (js.flatten ++ []))) (Us ks.length ks.length) = js := by
    have := subE_UsP (pre := ks.flatten) (mid := js) (post := []) (a := ks.length) (seven_flat h1) h2
    rwa [← hl] at this
  have := chkC_use (σ := pick (ks.flatten ++ (js.flatten ++ []))) (fit_pick (cells_app (cells_flat c1) (cells_app (cells_flat c2) (by simp)))) e151ok h3 (by
    simp only [subB, subP_pg2, e1, e2]
    exact ⟨hp, trivial⟩)
  simpa only [subL_cons, subL_nil, sub_slOf, e1, e2, sub_v] using this
theorem vals_len {ks js : List (List PV)} (h1 : Seven ks) (h2 : Seven js) (c1 : ∀ k ∈ ks, ∀ c ∈ k, Cell c) (c2 : ∀ k ∈ js, ∀ c ∈ k, Cell c) (hn : ks.length ≤ 3) (hm : js.length ≤ 3) (hne : ks.length ≠ js.length) :
    Known Tryz.prog 151 [slOf ks, slOf js] (num (sgn ks.length js.length)) := by
  have h0 := t_okValLen
  unfold okValLen at h0
  have h3 := List.all_eq_true.1 (List.all_eq_true.1 h0 ks.length (by simp; omega)) js.length (by simp; omega)
  rw [Bool.or_eq_true] at h3
  rcases h3 with h3 | h3
  · exact absurd (Nat.eq_of_beq_eq_true h3) hne
  · have e1 : subE (pick (ks.flatten ++ (js.flatten ++ []))) (Us 0 ks.length) = ks := subE_Us _ h1
    have e2 : subE (pick (ks.flatten ++ (js.flatten ++ []))) (Us ks.length js.length) = js := subE_UsP (pre := ks.flatten) (mid := js) (post := []) (a := ks.length) (seven_flat h1) h2
    have := chkC_use (σ := pick (ks.flatten ++ (js.flatten ++ []))) (fit_pick (cells_app (cells_flat c1) (cells_app (cells_flat c2) (by simp)))) e151ok h3 trivial
    simpa only [subL_cons, subL_nil, sub_slOf, e1, e2, sub_v] using this
theorem valsCC {ks js : List (List PV)} (h1 : Seven ks) (h2 : Seven js) (c1 : ∀ k ∈ ks, ∀ c ∈ k, Cell c) (c2 : ∀ k ∈ js, ∀ c ∈ k, Cell c) (hn : ks.length ≤ 3) (hm : js.length ≤ 3)
    (h : ∀ k ∈ ks, ∀ l ∈ js, CC 103 (.agg k) (.agg l)) : CC 151 (slOf ks) (slOf js) := by
  by_cases hl : ks.length = js.length
  · obtain ⟨cs, g1, g2, g3, g4⟩ := choose_cs hl fun x hx => by
      have := List.of_mem_zip hx
      exact h _ this.1 _ this.2
    refine .mk' (fst3_S3 g2) (fst3_neg cs) (vals_one h1 h2 c1 c2 hl hn g1 g2 g3) (vals_one h2 h1 c2 c1 hl.symm hm (by simp [g1, hl]) (by
      intro c hc
      obtain ⟨d, hd, rfl⟩ := List.mem_map.1 hc
      exact neg_S3 (g2 d hd)) g4)
  · exact .mk' (sgn_S3 _ _) (sgn_neg _ _) (vals_len h1 h2 c1 c2 hn hm hl) (vals_len h2 h1 c2 c1 hm hn (Ne.symm hl))
/-- entries -/
theorem ent_one {a b : PV} {f : Bool} {r s : List PV} (ha : Cell a) (hb : Cell b) (hr : r.length = 7) (hs : s.length = 7) (cr : ∀ c ∈ r, Cell c) (cs : ∀ c ∈ s, Cell c) {c d : Int} (hc : c ∈ S3) (hd : d ∈ S3)
    (h1 : Known Tryz.prog 151 [a, b] (num c)) (h2 : Known Tryz.prog 103 (pair r s) (num d)) : Known Tryz.prog 104 (pair (a :: bo f :: r) (b :: bo f :: s)) (num (if c = 0 then d else c)) := by
  have h0 := t_okEnts
  unfold okEnts at h0
  have h3 := List.all_eq_true.1 (List.all_eq_true.1 (List.all_eq_true.1 h0 c hc) d hd) f (mem_B2 f)
  have e1 : subL (pick ([a, b] ++ (r ++ (s ++ [])))) (ur 2 7) = r := subL_urP (pre := [a, b]) (k := r) (post := s ++ []) rfl hr
  have e2 : subL (pick ([a, b] ++ (r ++ (s ++ [])))) (ur 9 7) = s := by
    rw [← List.append_assoc]
    exact subL_urP (pre := [a, b] ++ r) (k := s) (post := []) (by simp [hr]) hs
  have e3 : pick ([a, b] ++ (r ++ (s ++ []))) 0 = a := rfl
  have e4 : pick ([a, b] ++ (r ++ (s ++ []))) 1 = b := rfl
  have := chkC_use (σ := pick ([a, b] ++ (r ++ (s ++ [])))) (fit_pick (cells_app (by intro x hx; simp at hx; rcases hx with rfl | rfl <;> assumption) (cells_app cr (cells_app cs (by simp))))) e104ok h3 (by
    simp only [subB, subP, sub_pair, subL_cons, subL_nil, sub_unk, e1, e2, e3, e4, sub_v]
    exact ⟨⟨h1, trivial⟩, ⟨h2, trivial⟩, trivial⟩)
  simpa only [sub_pair, subL_cons, subL_nil, sub_unk, sub_v, e1, e2, e3, e4] using this
theorem ent_two {a b : PV} {f : Bool} {r s : List PV} (ha : Cell a) (hb : Cell b) (hr : r.length = 7) (hs : s.length = 7) (cr : ∀ c ∈ r, Cell c) (cs : ∀ c ∈ s, Cell c) {c : Int} (hc : c ∈ S3)
    (h1 : Known Tryz.prog 151 [a, b] (num c)) : Known Tryz.prog 104 (pair (a :: bo f :: r) (b :: bo (!f) :: s)) (num (if c = 0 then (match f with | true => -1 | false => 1) else c)) := by
  have h0 := t_okEnts2
  unfold okEnts2 at h0
  have h3 := List.all_eq_true.1 (List.all_eq_true.1 h0 c hc) f (mem_B2 f)
  have e1 : subL (pick ([a, b] ++ (r ++ (s ++ [])))) (ur 2 7) = r := subL_urP (pre := [a, b]) (k := r) (post := s ++ []) rfl hr
  have e2 : subL (pick ([a, b] ++ (r ++ (s ++ [])))) (ur 9 7) = s := by
    rw [← List.append_assoc]
    exact subL_urP (pre := [a, b] ++ r) (k := s) (post := []) (by simp [hr]) hs
  have e3 : pick ([a, b] ++ (r ++ (s ++ []))) 0 = a := rfl
  have e4 : pick ([a, b] ++ (r ++ (s ++ []))) 1 = b := rfl
  have := chkC_use (σ := pick ([a, b] ++ (r ++ (s ++ [])))) (fit_pick (cells_app (by intro x hx; simp at hx; rcases hx with rfl | rfl <;> assumption) (cells_app cr (cells_app cs (by simp))))) e104ok h3 (by
    simp only [subB, subP, sub_pair, subL_cons, subL_nil, sub_unk, e1, e2, e3, e4, sub_v]
    exact ⟨⟨h1, trivial⟩, trivial⟩)
  revert this
  cases f <;> (intro this; simp only [sub_pair, subL_cons, subL_nil, sub_unk, sub_v, e1, e2, e3, e4] at this; exact this)
theorem entCC {xs ys : List (List PV)} {r s : Option (List PV)} (cx : ∀ k ∈ xs, ∀ c ∈ k, Cell c) (cy : ∀ k ∈ ys, ∀ c ∈ k, Cell c) (hr : ∀ x, r = some x → x.length = 7 ∧ ∀ c ∈ x, Cell c) (hs : ∀ x, s = some x → x.length = 7 ∧ ∀ c ∈ x, Cell c)
    (h1 : CC 151 (slOf xs) (slOf ys)) (h2 : ∀ x y, r = some x → s = some y → CC 103 (.agg x) (.agg y)) : CC 104 (.agg (ent xs r)) (.agg (ent ys s)) := by
  obtain ⟨c, hc, k1, k2⟩ := h1
  have ca := cell_slOf cx
  have cb := cell_slOf cy
  have negif : ∀ (c d : Int), (if -c = 0 then -d else -c) = -(if c = 0 then d else c) := by
    intro c d
    by_cases h : c = 0
    · rw [if_pos h, if_pos (by omega)]
    · rw [if_neg h, if_neg (by omega)]
  have s3if : ∀ {c d : Int}, c ∈ S3 → d ∈ S3 → (if c = 0 then d else c) ∈ S3 := by intro c d h1 h2; split <;> assumption
  cases r with
  | none =>
    cases s with
    | none =>
      refine .mk' (s3if hc (by decide : (0 : Int) ∈ S3)) ?_ (ent_one ca cb rfl rfl c_zero c_zero hc (by decide) k1 zero_eq) (ent_one (d := 0) cb ca rfl rfl c_zero c_zero (neg_S3 hc) (by decide) k2 zero_eq)
      exact negif c 0
    | some y =>
      obtain ⟨y1, y2⟩ := hs y rfl
      refine .mk' (s3if hc (by decide : (-1 : Int) ∈ S3)) ?_ (ent_two (f := true) ca cb rfl y1 c_zero y2 hc k1) (ent_two (f := false) cb ca y1 rfl y2 c_zero (neg_S3 hc) k2)
      exact negif c (-1)
  | some x =>
    obtain ⟨x1, x2⟩ := hr x rfl
    cases s with
    | none =>
      refine .mk' (s3if hc (by decide : (1 : Int) ∈ S3)) ?_ (ent_two (f := false) ca cb x1 rfl x2 c_zero hc k1) (ent_two (f := true) cb ca rfl x1 c_zero x2 (neg_S3 hc) k2)
      exact negif c 1
    | some y =>
      obtain ⟨y1, y2⟩ := hs y rfl
      obtain ⟨d, hd, m1, m2⟩ := h2 x y rfl rfl
      refine .mk' (s3if hc hd) ?_ (ent_one ca cb x1 y1 x2 y2 hc hd k1 m1) (ent_one cb ca y1 x1 y2 x2 (neg_S3 hc) (neg_S3 hd) k2 m2)
      exact negif c d
/-- values of different kinds -/
theorem kinds_ne {ka kb : Nat} (ha : ka ∈ [1, 2, 3, 4, 5, 6, 7, 8, 9]) (hb : kb ∈ [1, 2, 3, 4, 5, 6, 7, 8, 9]) (hne : ka ≠ kb) {r s : List PV} (hr : r.length = 6) (hs : s.length = 6) (cr : ∀ c ∈ r, Cell c) (cs : ∀ c ∈ s, Cell c) :
    Known Tryz.prog 103 (pair (i ka :: r) (i kb :: s)) (num (sgn ka kb)) := by
  have h0 := t_okKinds
  unfold okKinds at h0
  have h3 := List.all_eq_true.1 (List.all_eq_true.1 h0 ka ha) kb hb
  rw [Bool.or_eq_true] at h3
  rcases h3 with h3 | h3
  · exact absurd (Nat.eq_of_beq_eq_true h3) hne
  · have e1 : subL (pick (r ++ (s ++ []))) (ur 0 6) = r := subL_urP (pre := []) (k := r) (post := s ++ []) rfl hr
    have e2 : subL (pick (r ++ (s ++ []))) (ur 6 6) = s := subL_urP (pre := r) (k := s) (post := []) hr.symm hs
    have := chkC_use (σ := pick (r ++ (s ++ []))) (fit_pick (cells_app cr (cells_app cs (by simp)))) e103ok h3 trivial
    simpa only [sub_pair, subL_cons, sub_v, e1, e2] using this
theorem kindsCC {ka kb : Nat} {r s : List PV} (h1 : GV (i ka :: r)) (h2 : GV (i kb :: s)) (ha : ka ∈ [1, 2, 3, 4, 5, 6, 7, 8, 9]) (hb : kb ∈ [1, 2, 3, 4, 5, 6, 7, 8, 9]) (hne : ka ≠ kb) : CC 103 (.agg (i ka :: r)) (.agg (i kb :: s)) :=
  .mk' (sgn_S3 _ _) (sgn_neg _ _) (kinds_ne ha hb hne (six h1) (six h2) (cells_tl h1.cells) (cells_tl h2.cells)) (kinds_ne hb ha (Ne.symm hne) (six h2) (six h1) (cells_tl h2.cells) (cells_tl h1.cells))
theorem ints_ne {k : Nat} {l : List PV} (ht : okInts k l = true) (hl : ∀ c ∈ l, Cell c) {a b : PV} (ha : a ∈ l) (hb : b ∈ l) (hne : sgnP a b ≠ 0) {r s : List PV} (hr : r.length = 5) (hs : s.length = 5) (cr : ∀ c ∈ r, Cell c) (cs : ∀ c ∈ s, Cell c) :
    Known Tryz.prog 103 (pair (i k :: a :: r) (i k :: b :: s)) (num (sgnP a b)) := by
  unfold okInts at ht
  have h3 := List.all_eq_true.1 (List.all_eq_true.1 ht a ha) b hb
  rw [Bool.or_eq_true] at h3
  rcases h3 with h3 | h3
  · exact absurd (eq_of_beq h3) hne
  · have e1 : subL (pick (r ++ (s ++ []))) (ur 0 5) = r := subL_urP (pre := []) (k := r) (post := s ++ []) rfl hr
    have e2 : subL (pick (r ++ (s ++ []))) (ur 5 5) = s := subL_urP (pre := r) (k := s) (post := []) hr.symm hs
    have := chkC_use (σ := pick (r ++ (s ++ []))) (fit_pick (cells_app cr (cells_app cs (by simp)))) e103ok h3 trivial
    simpa only [sub_pair, subL_cons, sub_v, e1, e2, sub_cell (hl a ha), sub_cell (hl b hb)] using this
theorem texts_ne {k : Nat} {l : List PV} (ht : okTexts k l = true) (hl : ∀ c ∈ l, Cell c) {a b : PV} (ha : a ∈ l) (hb : b ∈ l) (hne : sgnP a b ≠ 0) {r s : List PV} (hr : r.length = 4) (hs : s.length = 4) (cr : ∀ c ∈ r, Cell c) (cs : ∀ c ∈ s, Cell c) :
    Known Tryz.prog 103 (pair (i k :: i 0 :: a :: r) (i k :: i 0 :: b :: s)) (num (sgnP a b)) := by
  unfold okTexts at ht
  have h3 := List.all_eq_true.1 (List.all_eq_true.1 ht a ha) b hb
  rw [Bool.or_eq_true] at h3
  rcases h3 with h3 | h3
  · exact absurd (eq_of_beq h3) hne
  · have e1 : subL (pick (r ++ (s ++ []))) (ur 0 4) = r := subL_urP (pre := []) (k := r) (post := s ++ []) rfl hr
    have e2 : subL (pick (r ++ (s ++ []))) (ur 4 4) = s := subL_urP (pre := r) (k := s) (post := []) hr.symm hs
    have := chkC_use (σ := pick (r ++ (s ++ []))) (fit_pick (cells_app cr (cells_app cs (by simp)))) e103ok h3 trivial
    simpa only [sub_pair, subL_cons, sub_v, e1, e2, sub_cell (hl a ha), sub_cell (hl b hb)] using this
theorem vals_nil : Known Tryz.prog 151 [nl, nl] (i 0) := by
  have h := t_okVals_0
  unfold okVals at h
  exact chkC_use fit0 e151ok (List.all_eq_true.1 h [] (by decide)) ⟨trivial, trivial⟩
theorem book0 (σ : Nat → PV) : PageOk Tryz.prog 151 (subP σ vals0.2) := by
  simp only [vals0, subP, subL_cons, subL_nil, sub_v]
  exact ⟨vals_nil, trivial⟩
theorem same_use {f : PV → List PV} (h : okSame f = true) (hc : ∀ l ∈ labels, ∀ c ∈ f l, Cell c) {a b : PV} (ha : a ∈ labels) (hb : b ∈ labels) : Known Tryz.prog 103 (pair (f a) (f b)) (num (labCmp a b)) := by
  unfold okSame at h
  have h3 := List.all_eq_true.1 (List.all_eq_true.1 h a ha) b hb
  have := chkC_use fit0 e103ok h3 ⟨book0 _, trivial⟩
  simpa only [sub_pair, sub_v, subL_cells (hc a ha), subL_cells (hc b hb)] using this
theorem sameCC {f : PV → List PV} (h : okSame f = true) (hc : ∀ l ∈ labels, ∀ c ∈ f l, Cell c) {a b : PV} (ha : a ∈ labels) (hb : b ∈ labels) : CC 103 (.agg (f a)) (.agg (f b)) :=
  .mk' (lab_S3 a ha b hb).1 (lab_S3 a ha b hb).2 (same_use h hc ha hb) (same_use h hc hb ha)
/-- tuples and lists -/
theorem kids_one {k : Nat} (ht : okKids k = true) {u v a b : PV} (hu : Cell u) (hv : Cell v) (ha : a ∈ labels) (hb : b ∈ labels) {c : Int} (hc : c ∈ S3) (h : Known Tryz.prog 151 [u, v] (num c)) :
    Known Tryz.prog 103 (pair (kidsS k u a) (kidsS k v b)) (num (if c = 0 then labCmp a b else c)) := by
  unfold okKids at ht
  rw [Bool.and_eq_true] at ht
  have ca := c_labels a ha
  have cb := c_labels b hb
  have hf : ∀ x ∈ [u, v, a, b], Cell x := by intro x hx; simp at hx; rcases hx with rfl | rfl | rfl | rfl <;> assumption
  have p0 : pick [u, v, a, b] 0 = u := rfl
  have p1 : pick [u, v, a, b] 1 = v := rfl
  have p2 : pick [u, v, a, b] 2 = a := rfl
  have p3 : pick [u, v, a, b] 3 = b := rfl
  by_cases h0 : c = 0
  · subst h0
    have h3 := List.all_eq_true.1 (List.all_eq_true.1 ht.2 a ha) b hb
    have := chkC_use (fit_pick hf) e103ok h3 (by
      simp only [subB, subP, subL_cons, subL_nil, sub_unk, sub_v, p0, p1]
      exact ⟨⟨h, trivial⟩, trivial⟩)
    rw [if_pos rfl]
    simpa only [sub_pair, kidsS, subL_cons, subL_nil, sub_unk, sub_v, p0, p1, sub_cell ca, sub_cell cb] using this
  · have hc2 : c ∈ S2 := by rcases of_S3 hc with rfl | rfl | rfl; decide; exact absurd rfl h0; decide
    have h3 := List.all_eq_true.1 ht.1 c hc2
    have := chkC_use (fit_pick hf) e103ok h3 (by
      simp only [subB, subP, subL_cons, subL_nil, sub_unk, sub_v, p0, p1]
      exact ⟨⟨h, trivial⟩, trivial⟩)
    rw [if_neg h0]
    simpa only [sub_pair, kidsS, subL_cons, subL_nil, sub_unk, sub_v, p0, p1, p2, p3] using this
theorem negl {c : Int} {a b : PV} (ha : a ∈ labels) (hb : b ∈ labels) : (if -c = 0 then labCmp b a else -c) = -(if c = 0 then labCmp a b else c) := by
  by_cases h : c = 0
  · rw [if_pos h, if_pos (by omega)]; exact (lab_S3 a ha b hb).2
  · rw [if_neg h, if_neg (by omega)]
theorem s3l {c : Int} (hc : c ∈ S3) {a b : PV} (ha : a ∈ labels) (hb : b ∈ labels) : (if c = 0 then labCmp a b else c) ∈ S3 := by
  split
  · exact (lab_S3 a ha b hb).1
  · exact hc
theorem kidsCC {k : Nat} (ht : okKids k = true) {u v a b : PV} (hu : Cell u) (hv : Cell v) (ha : a ∈ labels) (hb : b ∈ labels) (h : CC 151 u v) : CC 103 (.agg (kidsS k u a)) (.agg (kidsS k v b)) := by
  obtain ⟨c, hc, k1, k2⟩ := h
  exact .mk' (s3l hc ha hb) (negl ha hb) (kids_one ht hu hv ha hb hc k1) (kids_one ht hv hu hb ha (neg_S3 hc) k2)
end
end Go.Ev.D

/- Comparing maps, functions, all values. -/
namespace Go.Ev.D
open Go.Proofs
def keyEqB (a b : List PV) : Bool := match a, b with
  | [.v (.int .i64 x), .v (.string s)], [.v (.int .i64 y), .v (.string t)] => decide (x = y) && (s.data.toList == t.data.toList)
  | _, _ => false
theorem keyEqB_eq {a b : List PV} (h : keyEqB a b = true) : a = b := by
  unfold keyEqB at h
  split at h
  · rename_i x s y t
    rw [Bool.and_eq_true] at h
    have h1 := of_decide_eq_true h.1
    have h2 := eq_of_beq h.2
    obtain ⟨⟨s⟩⟩ := s
    obtain ⟨⟨t⟩⟩ := t
    simp at h2
    rw [h1, h2]
  · cases h
theorem keyLists_keys {ks : List (List PV)} (h : ks ∈ keyLists) : ∀ k ∈ ks, k ∈ keys := by
  have : (keyLists.all fun ks => ks.all fun k => keys.any fun l => keyEqB k l) = true := by decide
  intro k hk
  have h1 := List.all_eq_true.1 (List.all_eq_true.1 this ks h) k hk
  obtain ⟨l, hl, e⟩ := List.any_eq_true.1 h1
  rw [keyEqB_eq e]; exact hl
theorem keyLists_len {ks : List (List PV)} (h : ks ∈ keyLists) : ks.length ≤ 2 := by
  have : (keyLists.all fun ks => decide (ks.length ≤ 2)) = true := by decide
  exact of_decide_eq_true (List.all_eq_true.1 this ks h)
theorem keys_two {k : List PV} (h : k ∈ keys) : ∃ a b, k = [a, b] := by
  simp only [keys, atoms, words, List.map_cons, List.map_nil, List.cons_append, List.nil_append, List.mem_cons, List.not_mem_nil, or_false] at h
  rcases h with rfl | rfl | rfl | rfl | rfl | rfl | rfl | rfl <;> exact ⟨_, _, rfl⟩
section
variable [E : Env]
theorem key_one {a b : List PV} (ha : a ∈ keys) (hb : b ∈ keys) : Known Tryz.prog 65 (pair a b) (num (keyCmp a b)) := by
  have h0 := t_okCKeys
  unfold okCKeys at h0
  have h3 := List.all_eq_true.1 (List.all_eq_true.1 h0 a ha) b hb
  have ca := c_keys a ha
  have cb := c_keys b hb
  obtain ⟨a0, a1, rfl⟩ := keys_two ha
  obtain ⟨b0, b1, rfl⟩ := keys_two hb
  have := chkC_use fit0 e65ok h3 trivial
  rw [sub_pair, subL_cells ca, subL_cells cb, sub_v] at this
  exact this
theorem keyCC {a b : List PV} (ha : a ∈ keys) (hb : b ∈ keys) : CC 65 (.agg a) (.agg b) :=
  .mk' (key_S3 a ha b hb).1 (key_S3 a ha b hb).2 (key_one ha hb) (key_one hb ha)
theorem flat_len {w : Nat} : ∀ {ks : List (List PV)}, (∀ k ∈ ks, k.length = w) → ks.flatten.length = w * ks.length
  | [], _ => rfl
  | k :: ks, h => by
    have h1 := h k (by simp)
    have h2 := flat_len (ks := ks) fun x hx => h x (by simp [hx])
    simp only [List.flatten_cons, List.length_append, List.length_cons, h1, h2, Nat.mul_add]
    omega
theorem sub_kys : ∀ {mid : List (List PV)} {pre : List PV} {post : List PV} {a : Nat}, pre.length = a → (∀ k ∈ mid, k.length = 2) → subE (pick (pre ++ (mid.flatten ++ post))) (kys a mid.length) = mid
  | [], _, _, _, _, _ => rfl
  | k :: mid, pre, post, a, hp, h => by
    have h1 := h k (by simp)
    show subL _ (ur a 2) :: subE _ (kys (a + 2) mid.length) = _
    congr 1
    · rw [List.flatten_cons, List.append_assoc]
      exact subL_urP hp.symm h1
    · rw [List.flatten_cons, List.append_assoc, ← List.append_assoc]
      exact sub_kys (by simp [hp, h1]) fun x hx => h x (by simp [hx])
theorem sub_eys : ∀ {mid : List (List PV)} {pre : List PV} {post : List PV} {a : Nat}, pre.length = a → (∀ k ∈ mid, k.length = 9) → subE (pick (pre ++ (mid.flatten ++ post))) (eys a mid.length) = mid
  | [], _, _, _, _, _ => rfl
  | k :: mid, pre, post, a, hp, h => by
    have h1 := h k (by simp)
    show subL _ (ur a 9) :: subE _ (eys (a + 9) mid.length) = _
    congr 1
    · rw [List.flatten_cons, List.append_assoc]
      exact subL_urP hp.symm h1
    · rw [List.flatten_cons, List.append_assoc, ← List.append_assoc]
      exact sub_eys (by simp [hp, h1]) fun x hx => h x (by simp [hx])
theorem four {u v a b : PV} (hu : Cell u) (hv : Cell v) (ha : Cell a) (hb : Cell b) : ∀ x ∈ [u, v, a, b], Cell x := by
  intro x hx; simp at hx; rcases hx with rfl | rfl | rfl | rfl <;> assumption
theorem map_len {K J : List (List PV)} (hK : ∀ k ∈ K, k.length = 2) (hJ : ∀ k ∈ J, k.length = 2) (cK : ∀ k ∈ K, ∀ c ∈ k, Cell c) (cJ : ∀ k ∈ J, ∀ c ∈ k, Cell c) (hn : K.length ≤ 2) (hm : J.length ≤ 2) (hne : K.length ≠ J.length)
    {u v a b : PV} (hu : Cell u) (hv : Cell v) (ha : Cell a) (hb : Cell b) : Known Tryz.prog 103 (pair (mpS K u a) (mpS J v b)) (num (sgn K.length J.length)) := by
  have h0 := t_okKeyLen
  unfold okKeyLen at h0
  have h3 := List.all_eq_true.1 (List.all_eq_true.1 h0 K.length (by simp; omega)) J.length (by simp; omega)
  rw [Bool.or_eq_true] at h3
  rcases h3 with h3 | h3
  · exact absurd (Nat.eq_of_beq_eq_true h3) hne
  · have e1 : subE (pick ([u, v, a, b] ++ (K.flatten ++ (J.flatten ++ [])))) (kys 4 K.length) = K := sub_kys (pre := [u, v, a, b]) rfl hK
    have e2 : subE (pick ([u, v, a, b] ++ (K.flatten ++ (J.flatten ++ [])))) (kys (4 + 2 * K.length) J.length) = J := by
      rw [← List.append_assoc]
      exact sub_kys (pre := [u, v, a, b] ++ K.flatten) (post := []) (by simp [flat_len hK]; omega) hJ
    have p0 : pick ([u, v, a, b] ++ (K.flatten ++ (J.flatten ++ []))) 0 = u := rfl
    have p1 : pick ([u, v, a, b] ++ (K.flatten ++ (J.flatten ++ []))) 1 = v := rfl
    have p2 : pick ([u, v, a, b] ++ (K.flatten ++ (J.flatten ++ []))) 2 = a := rfl
    have p3 : pick ([u, v, a, b] ++ (K.flatten ++ (J.flatten ++ []))) 3 = b := rfl
    have := chkC_use (σ := pick ([u, v, a, b] ++ (K.flatten ++ (J.flatten ++ [])))) (fit_pick (cells_app (four hu hv ha hb) (cells_app (cells_flat cK) (cells_app (cells_flat cJ) (by simp))))) e103ok h3 trivial
    simpa only [sub_pair, mpS, subL_cons, subL_nil, sub_v, sub_unk, sub_slOf, e1, e2, p0, p1, p2, p3] using this
theorem map_one {K J : List (List PV)} (hK : ∀ k ∈ K, k.length = 2) (hJ : ∀ k ∈ J, k.length = 2) (cK : ∀ k ∈ K, ∀ c ∈ k, Cell c) (cJ : ∀ k ∈ J, ∀ c ∈ k, Cell c) (hn : K.length ≤ 2) (hl : K.length = J.length)
    {u v a b : PV} (hu : Cell u) (hv : Cell v) (ha : a ∈ labels) (hb : b ∈ labels) {cs : List Int} (hc : cs.length = K.length) (hs : ∀ c ∈ cs, c ∈ S3) (hp : PageOk Tryz.prog 65 (keyPg.pg2 K J cs)) {c : Int} (hc3 : c ∈ S3) (h : Known Tryz.prog 151 [u, v] (num c)) :
    Known Tryz.prog 103 (pair (mpS K u a) (mpS J v b)) (num (if fst3 cs = 0 then (if c = 0 then labCmp a b else c) else fst3 cs)) := by
  have h0 : okMapC K.length = true := by
    match hl : K.length, hn with
    | 0, _ => exact t_okMapC_0
    | 1, _ => exact t_okMapC_1
    | 2, _ => exact t_okMapC_2
  unfold okMapC at h0
  have h3 := List.all_eq_true.1 h0 cs (by rw [← hc]; exact mem_cube hs)
  have ca := c_labels a ha
  have cb := c_labels b hb
  have e1 : subE (pick ([u, v, a, b] ++ (K.flatten ++ (J.flatten ++ [])))) (kys 4 K.length) = K := sub_kys (pre := [u, v, a, b]) rfl hK
  have e2 : subE (pick ([u, v, a, b] ++ (K.flatten ++ (J.flatten ++ [])))) (kys (4 + 2 * K.length) K.length) = J := by
    rw [← List.append_assoc, hl]
    exact sub_kys (pre := [u, v, a, b] ++ K.flatten) (post := []) (by simp [flat_len hK]; omega) hJ
  have p0 : pick ([u, v, a, b] ++ (K.flatten ++ (J.flatten ++ []))) 0 = u := rfl
  have p1 : pick ([u, v, a, b] ++ (K.flatten ++ (J.flatten ++ []))) 1 = v := rfl
  have p2 : pick ([u, v, a, b] ++ (K.flatten ++ (J.flatten ++ []))) 2 = a := rfl
  have p3 : pick ([u, v, a, b] ++ (K.flatten ++ (J.flatten ++ []))) 3 = b := rfl
  have hf := fit_pick (cells_app (four hu hv ca cb) (cells_app (cells_flat cK) (cells_app (cells_flat cJ) (by simp : ∀ c ∈ ([] : List PV), Cell c))))
  have hpg : PageOk Tryz.prog 65 (subP (pick ([u, v, a, b] ++ (K.flatten ++ (J.flatten ++ [])))) (keyPg K.length cs)) := by
    unfold keyPg
    rw [subP_pg2, e1, e2]
    exact hp
  by_cases hz : fst3 cs = 0
  · rw [if_pos hz]
    have hd : decide (fst3 cs = 0) = true := by simp [hz]
    simp only [hd] at h3
    rw [Bool.and_eq_true] at h3
    by_cases h0 : c = 0
    · subst h0
      rw [if_pos rfl]
      have h4 := List.all_eq_true.1 (List.all_eq_true.1 h3.2 a ha) b hb
      have := chkC_use (σ := pick ([u, v, a, b] ++ (K.flatten ++ (J.flatten ++ [])))) hf e103ok h4 (by
        refine ⟨hpg, ?_, trivial⟩
        simp only [subP, subL_cons, subL_nil, sub_unk, sub_v, p0, p1]
        exact ⟨h, trivial⟩)
      simpa only [sub_pair, mpS, subL_cons, subL_nil, sub_v, sub_unk, sub_slOf, e1, e2, p0, p1, sub_cell ca, sub_cell cb] using this
    · have hc2 : c ∈ S2 := by rcases of_S3 hc3 with rfl | rfl | rfl; decide; exact absurd rfl h0; decide
      rw [if_neg h0]
      have h4 := List.all_eq_true.1 h3.1 c hc2
      have := chkC_use (σ := pick ([u, v, a, b] ++ (K.flatten ++ (J.flatten ++ [])))) hf e103ok h4 (by
        refine ⟨hpg, ?_, trivial⟩
        simp only [subP, subL_cons, subL_nil, sub_unk, sub_v, p0, p1]
        exact ⟨h, trivial⟩)
      simpa only [sub_pair, mpS, subL_cons, subL_nil, sub_v, sub_unk, sub_slOf, e1, e2, p0, p1, p2, p3] using this
  · rw [if_neg hz]
    have hd : decide (fst3 cs = 0) = false := by simp [hz]
    simp only [hd] at h3
    have := chkC_use (σ := pick ([u, v, a, b] ++ (K.flatten ++ (J.flatten ++ [])))) hf e103ok h3 ⟨hpg, trivial⟩
    simpa only [sub_pair, mpS, subL_cons, subL_nil, sub_v, sub_unk, sub_slOf, e1, e2, p0, p1, p2, p3] using this
theorem mapCC {K J : List (List PV)} (hK : K ∈ keyLists) (hJ : J ∈ keyLists) {u v a b : PV} (hu : Cell u) (hv : Cell v) (ha : a ∈ labels) (hb : b ∈ labels) (h : K.length = J.length → CC 151 u v) : CC 103 (.agg (mpS K u a)) (.agg (mpS J v b)) := by
  have k2 : ∀ k ∈ K, k.length = 2 := fun k hk => by obtain ⟨x, y, rfl⟩ := keys_two (keyLists_keys hK k hk); rfl
  have j2 : ∀ k ∈ J, k.length = 2 := fun k hk => by obtain ⟨x, y, rfl⟩ := keys_two (keyLists_keys hJ k hk); rfl
  have cK := c_keyLists K hK
  have cJ := c_keyLists J hJ
  have lK := keyLists_len hK
  have lJ := keyLists_len hJ
  have ca := c_labels a ha
  have cb := c_labels b hb
  by_cases hl : K.length = J.length
  · obtain ⟨cs, g1, g2, g3, g4⟩ := choose_cs (f := 65) hl fun x hx => by
      have := List.of_mem_zip hx
      exact keyCC (keyLists_keys hK _ this.1) (keyLists_keys hJ _ this.2)
    obtain ⟨c, hc, m1, m2⟩ := h hl
    have gn : ∀ c ∈ cs.map fun c => -c, c ∈ S3 := by
      intro c hc
      obtain ⟨d, hd, rfl⟩ := List.mem_map.1 hc
      exact neg_S3 (g2 d hd)
    refine .mk' ?_ ?_ (map_one k2 j2 cK cJ lK hl hu hv ha hb g1 g2 g3 hc m1) (map_one j2 k2 cJ cK lJ hl.symm hv hu hb ha (by simp [g1, hl]) gn g4 (neg_S3 hc) m2)
    · split
      · exact s3l hc ha hb
      · exact fst3_S3 g2
    · rw [fst3_neg]
      by_cases hz : fst3 cs = 0
      · rw [if_pos hz, if_pos (by omega)]; exact negl ha hb
      · rw [if_neg hz, if_neg (by omega)]
  · exact .mk' (sgn_S3 _ _) (sgn_neg _ _) (map_len k2 j2 cK cJ lK lJ hl hu hv ca cb) (map_len j2 k2 cJ cK lJ lK (Ne.symm hl) hv hu cb ca)
/-- functions of one arity -/
theorem fn_len {r : Nat} (hr : r ≤ 2) {K J : List (List PV)} (hK : ∀ k ∈ K, k.length = 9) (hJ : ∀ k ∈ J, k.length = 9) (cK : ∀ k ∈ K, ∀ c ∈ k, Cell c) (cJ : ∀ k ∈ J, ∀ c ∈ k, Cell c) (hn : K.length ≤ 2) (hm : J.length ≤ 2) (hne : K.length ≠ J.length)
    {a b : PV} (ha : Cell a) (hb : Cell b) : Known Tryz.prog 103 (pair (fnS r K a) (fnS r J b)) (num (sgn K.length J.length)) := by
  have h0 := t_okEntLen
  unfold okEntLen at h0
  have h3 := List.all_eq_true.1 (List.all_eq_true.1 (List.all_eq_true.1 h0 r (by simp; omega)) K.length (by simp; omega)) J.length (by simp; omega)
  rw [Bool.or_eq_true] at h3
  rcases h3 with h3 | h3
  · exact absurd (Nat.eq_of_beq_eq_true h3) hne
  · have e1 : subE (pick ([a, b] ++ (K.flatten ++ (J.flatten ++ [])))) (eys 2 K.length) = K := sub_eys (pre := [a, b]) rfl hK
    have e2 : subE (pick ([a, b] ++ (K.flatten ++ (J.flatten ++ [])))) (eys (2 + 9 * K.length) J.length) = J := by
      rw [← List.append_assoc]
      exact sub_eys (pre := [a, b] ++ K.flatten) (post := []) (by simp [flat_len hK]; omega) hJ
    have p0 : pick ([a, b] ++ (K.flatten ++ (J.flatten ++ []))) 0 = a := rfl
    have p1 : pick ([a, b] ++ (K.flatten ++ (J.flatten ++ []))) 1 = b := rfl
    have := chkC_use (σ := pick ([a, b] ++ (K.flatten ++ (J.flatten ++ [])))) (fit_pick (cells_app (by intro x hx; simp at hx; rcases hx with rfl | rfl <;> assumption) (cells_app (cells_flat cK) (cells_app (cells_flat cJ) (by simp))))) e103ok h3 ⟨book0 _, trivial⟩
    simpa only [sub_pair, fnS, subL_cons, subL_nil, sub_v, sub_unk, sub_slOf, e1, e2, p0, p1] using this
theorem fn_one {r : Nat} (hr : r ≤ 2) {K J : List (List PV)} (hK : ∀ k ∈ K, k.length = 9) (hJ : ∀ k ∈ J, k.length = 9) (cK : ∀ k ∈ K, ∀ c ∈ k, Cell c) (cJ : ∀ k ∈ J, ∀ c ∈ k, Cell c) (hn : K.length ≤ 2) (hl : K.length = J.length)
    {a b : PV} (ha : a ∈ labels) (hb : b ∈ labels) {cs : List Int} (hc : cs.length = K.length) (hs : ∀ c ∈ cs, c ∈ S3) (hp : PageOk Tryz.prog 104 (keyPg.pg2 K J cs)) :
    Known Tryz.prog 103 (pair (fnS r K a) (fnS r J b)) (num (if fst3 cs = 0 then labCmp a b else fst3 cs)) := by
  have h0 : okFunC r K.length = true := by
    match r, hr, hl : K.length, hn with
    | 0, _, 0, _ => exact t_okFunC_0_0
    | 0, _, 1, _ => exact t_okFunC_0_1
    | 0, _, 2, _ => exact t_okFunC_0_2
    | 1, _, 0, _ => exact t_okFunC_1_0
    | 1, _, 1, _ => exact t_okFunC_1_1
    | 1, _, 2, _ => exact t_okFunC_1_2
    | 2, _, 0, _ => exact t_okFunC_2_0
    | 2, _, 1, _ => exact t_okFunC_2_1
    | 2, _, 2, _ => exact t_okFunC_2_2
  unfold okFunC at h0
  have h3 := List.all_eq_true.1 h0 cs (by rw [← hc]; exact mem_cube hs)
  have ca := c_labels a ha
  have cb := c_labels b hb
  have e1 : subE (pick ([a, b] ++ (K.flatten ++ (J.flatten ++ [])))) (eys 2 K.length) = K := sub_eys (pre := [a, b]) rfl hK
  have e2 : subE (pick ([a, b] ++ (K.flatten ++ (J.flatten ++ [])))) (eys (2 + 9 * K.length) K.length) = J := by
    rw [← List.append_assoc, hl]
    exact sub_eys (pre := [a, b] ++ K.flatten) (post := []) (by simp [flat_len hK]; omega) hJ
  have p0 : pick ([a, b] ++ (K.flatten ++ (J.flatten ++ []))) 0 = a := rfl
  have p1 : pick ([a, b] ++ (K.flatten ++ (J.flatten ++ []))) 1 = b := rfl
  have hf := fit_pick (cells_app (a := [a, b]) (by intro x hx; simp at hx; rcases hx with rfl | rfl <;> assumption) (cells_app (cells_flat cK) (cells_app (cells_flat cJ) (by simp : ∀ c ∈ ([] : List PV), Cell c))))
  have hpg : PageOk Tryz.prog 104 (subP (pick ([a, b] ++ (K.flatten ++ (J.flatten ++ [])))) (entPg K.length cs)) := by
    unfold entPg
    rw [subP_pg2, e1, e2]
    exact hp
  by_cases hz : fst3 cs = 0
  · rw [if_pos hz]
    have hd : decide (fst3 cs = 0) = true := by simp [hz]
    simp only [hd] at h3
    have h4 := List.all_eq_true.1 (List.all_eq_true.1 h3 a ha) b hb
    have := chkC_use (σ := pick ([a, b] ++ (K.flatten ++ (J.flatten ++ [])))) hf e103ok h4 ⟨book0 _, hpg, trivial⟩
    simpa only [sub_pair, fnS, subL_cons, subL_nil, sub_v, sub_unk, sub_slOf, e1, e2, sub_cell ca, sub_cell cb] using this
  · rw [if_neg hz]
    have hd : decide (fst3 cs = 0) = false := by simp [hz]
    simp only [hd] at h3
    have := chkC_use (σ := pick ([a, b] ++ (K.flatten ++ (J.flatten ++ [])))) hf e103ok h3 ⟨book0 _, hpg, trivial⟩
    simpa only [sub_pair, fnS, subL_cons, subL_nil, sub_v, sub_unk, sub_slOf, e1, e2, p0, p1] using this
theorem fnCC {r : Nat} (hr : r ≤ 2) {K J : List (List PV)} (hK : ∀ k ∈ K, k.length = 9) (hJ : ∀ k ∈ J, k.length = 9) (cK : ∀ k ∈ K, ∀ c ∈ k, Cell c) (cJ : ∀ k ∈ J, ∀ c ∈ k, Cell c) (hn : K.length ≤ 2) (hm : J.length ≤ 2)
    {a b : PV} (ha : a ∈ labels) (hb : b ∈ labels) (h : ∀ k ∈ K, ∀ l ∈ J, CC 104 (.agg k) (.agg l)) : CC 103 (.agg (fnS r K a)) (.agg (fnS r J b)) := by
  have ca := c_labels a ha
  have cb := c_labels b hb
  by_cases hl : K.length = J.length
  · obtain ⟨cs, g1, g2, g3, g4⟩ := choose_cs (f := 104) hl fun x hx => by
      have := List.of_mem_zip hx
      exact h _ this.1 _ this.2
    have gn : ∀ c ∈ cs.map fun c => -c, c ∈ S3 := by
      intro c hc
      obtain ⟨d, hd, rfl⟩ := List.mem_map.1 hc
      exact neg_S3 (g2 d hd)
    refine .mk' ?_ ?_ (fn_one hr hK hJ cK cJ hn hl ha hb g1 g2 g3) (fn_one hr hJ hK cJ cK hm hl.symm hb ha (by simp [g1, hl]) gn g4)
    · split
      · exact (lab_S3 a ha b hb).1
      · exact fst3_S3 g2
    · rw [fst3_neg]
      by_cases hz : fst3 cs = 0
      · rw [if_pos hz, if_pos (by omega)]; exact (lab_S3 a ha b hb).2
      · rw [if_neg hz, if_neg (by omega)]
  · exact .mk' (sgn_S3 _ _) (sgn_neg _ _) (fn_len hr hK hJ cK cJ hn hm hl ca cb) (fn_len hr hJ hK cJ cK hm hn (Ne.symm hl) cb ca)
/-- all values -/
theorem compareCC {a : List PV} (ha : GV a) : ∀ {b : List PV}, GV b → CC 103 (.agg a) (.agg b) := by
  have off : ∀ {ka kb : Nat} {r s : List PV}, GV (i ka :: r) → GV (i kb :: s) → ka ∈ [1, 2, 3, 4, 5, 6, 7, 8, 9] → kb ∈ [1, 2, 3, 4, 5, 6, 7, 8, 9] → ka ≠ kb → CC 103 (.agg (i ka :: r)) (.agg (i kb :: s)) := kindsCC
  induction ha with
  | int hn hl =>
    rename_i n l
    intro b hb
    have hA := GV.int hn hl
    cases hb with
    | int hm hk =>
      rename_i m k
      obtain ⟨q1, q2, q3⟩ := nums_eq n hn m hm
      by_cases hz : sgnP n m = 0
      · have := q1 hz; subst this
        have ht := t_okLeafC
        unfold okLeafC at ht
        rw [Bool.and_eq_true] at ht
        exact sameCC (List.all_eq_true.1 ht.1 n hn) (fun l hl => (GV.int hn hl).cells) hl hk
      · have hB := GV.int hm hk
        exact .mk' q2 q3 (ints_ne t_okInts_1_nums c_nums hn hm hz rfl rfl (cells_tl (cells_tl hA.cells)) (cells_tl (cells_tl hB.cells))) (ints_ne t_okInts_1_nums c_nums hm hn (by rw [q3]; omega) rfl rfl (cells_tl (cells_tl hB.cells)) (cells_tl (cells_tl hA.cells)))
    | str h1 h2 => exact off hA (.str h1 h2) (by decide) (by decide) (by decide)
    | atom h1 h2 => exact off hA (.atom h1 h2) (by decide) (by decide) (by decide)
    | pid h1 h2 => exact off hA (.pid h1 h2) (by decide) (by decide) (by decide)
    | nil h1 => exact off hA (.nil h1) (by decide) (by decide) (by decide)
    | tup h1 h2 h3 => exact off hA (.tup h1 h2 h3) (by decide) (by decide) (by decide)
    | cons h1 h2 h3 h4 => exact off hA (.cons h1 h2 h3 h4) (by decide) (by decide) (by decide)
    | map h1 h2 h3 h4 => exact off hA (.map h1 h2 h3 h4) (by decide) (by decide) (by decide)
    | fn h1 h2 h3 h4 h5 h6 h7 => exact off hA (.fn h1 h2 h3 h4 h5 h6 h7) (by decide) (by decide) (by decide)
  | str hn hl =>
    rename_i n l
    intro b hb
    have hA := GV.str hn hl
    cases hb with
    | str hm hk =>
      rename_i m k
      obtain ⟨q1, q2, q3⟩ := words_eq n hn m hm
      by_cases hz : sgnP n m = 0
      · have := q1 hz; subst this
        have ht := t_okLeafC2
        unfold okLeafC2 at ht
        simp only [Bool.and_eq_true] at ht
        exact sameCC (List.all_eq_true.1 ht.1.1 n hn) (fun l hl => (GV.str hn hl).cells) hl hk
      · have hB := GV.str hm hk
        exact .mk' q2 q3 (texts_ne t_okTexts_2_words c_words hn hm hz rfl rfl (cells_tl (cells_tl (cells_tl hA.cells))) (cells_tl (cells_tl (cells_tl hB.cells)))) (texts_ne t_okTexts_2_words c_words hm hn (by rw [q3]; omega) rfl rfl (cells_tl (cells_tl (cells_tl hB.cells))) (cells_tl (cells_tl (cells_tl hA.cells))))
    | int h1 h2 => exact off hA (.int h1 h2) (by decide) (by decide) (by decide)
    | atom h1 h2 => exact off hA (.atom h1 h2) (by decide) (by decide) (by decide)
    | pid h1 h2 => exact off hA (.pid h1 h2) (by decide) (by decide) (by decide)
    | nil h1 => exact off hA (.nil h1) (by decide) (by decide) (by decide)
    | tup h1 h2 h3 => exact off hA (.tup h1 h2 h3) (by decide) (by decide) (by decide)
    | cons h1 h2 h3 h4 => exact off hA (.cons h1 h2 h3 h4) (by decide) (by decide) (by decide)
    | map h1 h2 h3 h4 => exact off hA (.map h1 h2 h3 h4) (by decide) (by decide) (by decide)
    | fn h1 h2 h3 h4 h5 h6 h7 => exact off hA (.fn h1 h2 h3 h4 h5 h6 h7) (by decide) (by decide) (by decide)
  | atom hn hl =>
    rename_i n l
    intro b hb
    have hA := GV.atom hn hl
    cases hb with
    | atom hm hk =>
      rename_i m k
      obtain ⟨q1, q2, q3⟩ := atoms_eq n hn m hm
      by_cases hz : sgnP n m = 0
      · have := q1 hz; subst this
        have ht := t_okLeafC2
        unfold okLeafC2 at ht
        simp only [Bool.and_eq_true] at ht
        exact sameCC (List.all_eq_true.1 ht.1.2 n hn) (fun l hl => (GV.atom hn hl).cells) hl hk
      · have hB := GV.atom hm hk
        exact .mk' q2 q3 (texts_ne t_okTexts_3_atoms c_atoms hn hm hz rfl rfl (cells_tl (cells_tl (cells_tl hA.cells))) (cells_tl (cells_tl (cells_tl hB.cells)))) (texts_ne t_okTexts_3_atoms c_atoms hm hn (by rw [q3]; omega) rfl rfl (cells_tl (cells_tl (cells_tl hB.cells))) (cells_tl (cells_tl (cells_tl hA.cells))))
    | int h1 h2 => exact off hA (.int h1 h2) (by decide) (by decide) (by decide)
    | str h1 h2 => exact off hA (.str h1 h2) (by decide) (by decide) (by decide)
    | pid h1 h2 => exact off hA (.pid h1 h2) (by decide) (by decide) (by decide)
    | nil h1 => exact off hA (.nil h1) (by decide) (by decide) (by decide)
    | tup h1 h2 h3 => exact off hA (.tup h1 h2 h3) (by decide) (by decide) (by decide)
    | cons h1 h2 h3 h4 => exact off hA (.cons h1 h2 h3 h4) (by decide) (by decide) (by decide)
    | map h1 h2 h3 h4 => exact off hA (.map h1 h2 h3 h4) (by decide) (by decide) (by decide)
    | fn h1 h2 h3 h4 h5 h6 h7 => exact off hA (.fn h1 h2 h3 h4 h5 h6 h7) (by decide) (by decide) (by decide)
  | pid hn hl =>
    rename_i n l
    intro b hb
    have hA := GV.pid hn hl
    cases hb with
    | pid hm hk =>
      rename_i m k
      obtain ⟨q1, q2, q3⟩ := pids_eq n hn m hm
      by_cases hz : sgnP n m = 0
      · have := q1 hz; subst this
        have ht := t_okLeafC2
        unfold okLeafC2 at ht
        simp only [Bool.and_eq_true] at ht
        exact sameCC (List.all_eq_true.1 ht.2 n hn) (fun l hl => (GV.pid hn hl).cells) hl hk
      · have hB := GV.pid hm hk
        exact .mk' q2 q3 (ints_ne t_okInts_4_pids c_pids hn hm hz rfl rfl (cells_tl (cells_tl hA.cells)) (cells_tl (cells_tl hB.cells))) (ints_ne t_okInts_4_pids c_pids hm hn (by rw [q3]; omega) rfl rfl (cells_tl (cells_tl hB.cells)) (cells_tl (cells_tl hA.cells)))
    | int h1 h2 => exact off hA (.int h1 h2) (by decide) (by decide) (by decide)
    | str h1 h2 => exact off hA (.str h1 h2) (by decide) (by decide) (by decide)
    | atom h1 h2 => exact off hA (.atom h1 h2) (by decide) (by decide) (by decide)
    | nil h1 => exact off hA (.nil h1) (by decide) (by decide) (by decide)
    | tup h1 h2 h3 => exact off hA (.tup h1 h2 h3) (by decide) (by decide) (by decide)
    | cons h1 h2 h3 h4 => exact off hA (.cons h1 h2 h3 h4) (by decide) (by decide) (by decide)
    | map h1 h2 h3 h4 => exact off hA (.map h1 h2 h3 h4) (by decide) (by decide) (by decide)
    | fn h1 h2 h3 h4 h5 h6 h7 => exact off hA (.fn h1 h2 h3 h4 h5 h6 h7) (by decide) (by decide) (by decide)
  | nil hl =>
    rename_i l
    intro b hb
    have hA := GV.nil hl
    cases hb with
    | nil hk =>
      have ht := t_okLeafC
      unfold okLeafC at ht
      rw [Bool.and_eq_true] at ht
      exact sameCC ht.2 (fun l hl => (GV.nil hl).cells) hl hk
    | int h1 h2 => exact off hA (.int h1 h2) (by decide) (by decide) (by decide)
    | str h1 h2 => exact off hA (.str h1 h2) (by decide) (by decide) (by decide)
    | atom h1 h2 => exact off hA (.atom h1 h2) (by decide) (by decide) (by decide)
    | pid h1 h2 => exact off hA (.pid h1 h2) (by decide) (by decide) (by decide)
    | tup h1 h2 h3 => exact off hA (.tup h1 h2 h3) (by decide) (by decide) (by decide)
    | cons h1 h2 h3 h4 => exact off hA (.cons h1 h2 h3 h4) (by decide) (by decide) (by decide)
    | map h1 h2 h3 h4 => exact off hA (.map h1 h2 h3 h4) (by decide) (by decide) (by decide)
    | fn h1 h2 h3 h4 h5 h6 h7 => exact off hA (.fn h1 h2 h3 h4 h5 h6 h7) (by decide) (by decide) (by decide)
  | tup hn hk hl ih =>
    rename_i ks l
    intro b hb
    have hA := GV.tup hn hk hl
    cases hb with
    | tup hm hj hl' =>
      rename_i js l'
      have c1 : ∀ k ∈ ks, ∀ c ∈ k, Cell c := fun k h => (hk k h).cells
      have c2 : ∀ k ∈ js, ∀ c ∈ k, Cell c := fun k h => (hj k h).cells
      exact kidsCC t_okKids_6 (cell_slOf c1) (cell_slOf c2) hl hl' (valsCC (fun k h => (hk k h).seven) (fun k h => (hj k h).seven) c1 c2 hn hm fun k h1 l h2 => ih k h1 (hj l h2))
    | int h1 h2 => exact off hA (.int h1 h2) (by decide) (by decide) (by decide)
    | str h1 h2 => exact off hA (.str h1 h2) (by decide) (by decide) (by decide)
    | atom h1 h2 => exact off hA (.atom h1 h2) (by decide) (by decide) (by decide)
    | pid h1 h2 => exact off hA (.pid h1 h2) (by decide) (by decide) (by decide)
    | nil h1 => exact off hA (.nil h1) (by decide) (by decide) (by decide)
    | cons h1 h2 h3 h4 => exact off hA (.cons h1 h2 h3 h4) (by decide) (by decide) (by decide)
    | map h1 h2 h3 h4 => exact off hA (.map h1 h2 h3 h4) (by decide) (by decide) (by decide)
    | fn h1 h2 h3 h4 h5 h6 h7 => exact off hA (.fn h1 h2 h3 h4 h5 h6 h7) (by decide) (by decide) (by decide)
  | cons hh ht hk hl ih1 ih2 =>
    rename_i hd t l
    intro b hb
    have hA := GV.cons hh ht hk hl
    cases hb with
    | cons hh' ht' hk' hl' =>
      rename_i hd' t' l'
      have g1 : ∀ k ∈ [hd, t], GV k := by intro k hk; simp at hk; rcases hk with rfl | rfl <;> assumption
      have g2 : ∀ k ∈ [hd', t'], GV k := by intro k hk; simp at hk; rcases hk with rfl | rfl <;> assumption
      have c1 : ∀ k ∈ [hd, t], ∀ c ∈ k, Cell c := fun k h => (g1 k h).cells
      have c2 : ∀ k ∈ [hd', t'], ∀ c ∈ k, Cell c := fun k h => (g2 k h).cells
      refine kidsCC t_okKids_7 (cell_slOf c1) (cell_slOf c2) hl hl' (valsCC (fun k h => (g1 k h).seven) (fun k h => (g2 k h).seven) c1 c2 (by simp) (by simp) fun k h1 l h2 => ?_)
      have h3 := g2 l h2
      simp only [List.mem_cons, List.not_mem_nil, or_false] at h1
      rcases h1 with rfl | rfl
      · exact ih1 h3
      · exact ih2 h3
    | int h1 h2 => exact off hA (.int h1 h2) (by decide) (by decide) (by decide)
    | str h1 h2 => exact off hA (.str h1 h2) (by decide) (by decide) (by decide)
    | atom h1 h2 => exact off hA (.atom h1 h2) (by decide) (by decide) (by decide)
    | pid h1 h2 => exact off hA (.pid h1 h2) (by decide) (by decide) (by decide)
    | nil h1 => exact off hA (.nil h1) (by decide) (by decide) (by decide)
    | tup h1 h2 h3 => exact off hA (.tup h1 h2 h3) (by decide) (by decide) (by decide)
    | map h1 h2 h3 h4 => exact off hA (.map h1 h2 h3 h4) (by decide) (by decide) (by decide)
    | fn h1 h2 h3 h4 h5 h6 h7 => exact off hA (.fn h1 h2 h3 h4 h5 h6 h7) (by decide) (by decide) (by decide)
  | map hk hlen hkids hl ih =>
    rename_i keys ks l
    intro b hb
    have hA := GV.map hk hlen hkids hl
    cases hb with
    | map hk' hlen' hkids' hl' =>
      rename_i keys' js l'
      have c1 : ∀ k ∈ ks, ∀ c ∈ k, Cell c := fun k h => (hkids k h).cells
      have c2 : ∀ k ∈ js, ∀ c ∈ k, Cell c := fun k h => (hkids' k h).cells
      have l1 := keyLists_len hk
      have l2 := keyLists_len hk'
      exact mapCC hk hk' (cell_slOf c1) (cell_slOf c2) hl hl' fun _ => valsCC (fun k h => (hkids k h).seven) (fun k h => (hkids' k h).seven) c1 c2 (by omega) (by omega) fun k h1 l h2 => ih k h1 (hkids' l h2)
    | int h1 h2 => exact off hA (.int h1 h2) (by decide) (by decide) (by decide)
    | str h1 h2 => exact off hA (.str h1 h2) (by decide) (by decide) (by decide)
    | atom h1 h2 => exact off hA (.atom h1 h2) (by decide) (by decide) (by decide)
    | pid h1 h2 => exact off hA (.pid h1 h2) (by decide) (by decide) (by decide)
    | nil h1 => exact off hA (.nil h1) (by decide) (by decide) (by decide)
    | tup h1 h2 h3 => exact off hA (.tup h1 h2 h3) (by decide) (by decide) (by decide)
    | cons h1 h2 h3 h4 => exact off hA (.cons h1 h2 h3 h4) (by decide) (by decide) (by decide)
    | fn h1 h2 h3 h4 h5 h6 h7 => exact off hA (.fn h1 h2 h3 h4 h5 h6 h7) (by decide) (by decide) (by decide)
  | fn hn hp hlen ha hr hord hl ih1 ih2 =>
    rename_i n ps l
    intro b hb
    have hA := GV.fn hn hp hlen ha hr hord hl
    cases hb with
    | fn hn' hp' hlen' ha' hr' hord' hl' =>
      rename_i n' qs l'
      by_cases hz : n = n'
      · subst hz
        refine fnCC hn ?_ ?_ ?_ ?_ (by simpa using hp) (by simpa using hp') hl hl' ?_
        · intro k hk
          obtain ⟨p, hpm, rfl⟩ := List.mem_map.1 hk
          exact ent_len fun x hx => (hr p hpm x hx).seven
        · intro k hk
          obtain ⟨p, hpm, rfl⟩ := List.mem_map.1 hk
          exact ent_len fun x hx => (hr' p hpm x hx).seven
        · intro k hk
          obtain ⟨p, hpm, rfl⟩ := List.mem_map.1 hk
          exact ent_cells (fun x hx => (ha p hpm x hx).cells) fun x hx => (hr p hpm x hx).cells
        · intro k hk
          obtain ⟨p, hpm, rfl⟩ := List.mem_map.1 hk
          exact ent_cells (fun x hx => (ha' p hpm x hx).cells) fun x hx => (hr' p hpm x hx).cells
        · intro k hk l hl
          obtain ⟨p, hpm, rfl⟩ := List.mem_map.1 hk
          obtain ⟨q, hqm, rfl⟩ := List.mem_map.1 hl
          have l1 := hlen p hpm
          have l2 := hlen' q hqm
          have c1 : ∀ k ∈ p.1, ∀ c ∈ k, Cell c := fun x hx => (ha p hpm x hx).cells
          have c2 : ∀ k ∈ q.1, ∀ c ∈ k, Cell c := fun x hx => (ha' q hqm x hx).cells
          exact entCC c1 c2 (fun x hx => ⟨(hr p hpm x hx).seven, (hr p hpm x hx).cells⟩) (fun x hx => ⟨(hr' q hqm x hx).seven, (hr' q hqm x hx).cells⟩)
            (valsCC (fun x hx => (ha p hpm x hx).seven) (fun x hx => (ha' q hqm x hx).seven) c1 c2 (by omega) (by omega) fun x hx y hy => ih1 p hpm x hx (ha' q hqm y hy))
            fun x y hx hy => ih2 p hpm x hx (hr' q hqm y hy)
      · have hB := GV.fn hn' hp' hlen' ha' hr' hord' hl'
        have m1 : i n ∈ ([i 0, i 1, i 2] : List PV) := by match n, hn with | 0, _ => simp | 1, _ => simp | 2, _ => simp
        have m2 : i n' ∈ ([i 0, i 1, i 2] : List PV) := by match n', hn' with | 0, _ => simp | 1, _ => simp | 2, _ => simp
        have sz : ∀ {x y : Nat}, x ≠ y → sgnP (i x) (i y) ≠ 0 := by
          intro x y h
          show sgn (x : Int) (y : Int) ≠ 0
          unfold sgn
          split
          · decide
          · split
            · decide
            · omega
        exact .mk' (c := sgnP (i n) (i n')) (d := sgnP (i n') (i n)) (sgn_S3 _ _) (sgn_neg _ _)
          (ints_ne t_okInts_9 (cells_of rfl) m1 m2 (sz hz) rfl rfl (cells_tl (cells_tl hA.cells)) (cells_tl (cells_tl hB.cells)))
          (ints_ne t_okInts_9 (cells_of rfl) m2 m1 (sz (Ne.symm hz)) rfl rfl (cells_tl (cells_tl hB.cells)) (cells_tl (cells_tl hA.cells)))
    | int h1 h2 => exact off hA (.int h1 h2) (by decide) (by decide) (by decide)
    | str h1 h2 => exact off hA (.str h1 h2) (by decide) (by decide) (by decide)
    | atom h1 h2 => exact off hA (.atom h1 h2) (by decide) (by decide) (by decide)
    | pid h1 h2 => exact off hA (.pid h1 h2) (by decide) (by decide) (by decide)
    | nil h1 => exact off hA (.nil h1) (by decide) (by decide) (by decide)
    | tup h1 h2 h3 => exact off hA (.tup h1 h2 h3) (by decide) (by decide) (by decide)
    | cons h1 h2 h3 h4 => exact off hA (.cons h1 h2 h3 h4) (by decide) (by decide) (by decide)
    | map h1 h2 h3 h4 => exact off hA (.map h1 h2 h3 h4) (by decide) (by decide) (by decide)
end
end Go.Ev.D
