/- What the makers answer; members of a type. -/
import Derived.Test.YtpahaogeenalpaaGreatEvJc
import Derived.Test.YtpahaogeenalpaaGreatEvFg
set_option linter.all false
namespace Go.Ev.D
open Go.Proofs
section
variable [E : Env]
theorem two {a b : PV} (h0 : Cell a) (h1 : Cell b) : ∀ x ∈ [a, b], Cell x := by
  intro x hx; simp at hx; rcases hx with rfl | rfl <;> assumption
theorem one {a : PV} (h0 : Cell a) : ∀ x ∈ [a], Cell x := by
  intro x hx; simp at hx; subst hx; assumption
theorem mkTup {ks : List (List PV)} (hn : ks.length ≤ 3) (hk : ∀ k ∈ ks, GV k) : Known Tryz.prog 31 [slOf ks] (.agg (vTup ks nl)) := by
  have h := t_okMake
  unfold okMake at h
  simp only [Bool.and_eq_true] at h
  have h1 := List.all_eq_true.1 h.1.1.1.1.1.1 ks.length (by simp; omega)
  have hs : Seven ks := fun k hk' => (hk k hk').seven
  have hu := subE_Us [] hs
  have := chk_use (fit_pick (cells_app (cells_flat fun k hk' => (hk k hk').cells) (by simp))) e31ok h1 trivial (σ := pick (ks.flatten ++ []))
  simpa only [vTup, subL_cons, subL_nil, sub_agg, sub_v, sub_slOf, hu] using this
theorem mkNil : Known Tryz.prog 32 [] (.agg (vNil nl)) := by
  have h := t_okMake
  unfold okMake at h
  simp only [Bool.and_eq_true] at h
  have := chk_use fit0 e32ok h.1.1.1.1.1.2 trivial
  simpa only [vNil, subL_cons, subL_nil, sub_agg, sub_v] using this
theorem mkCons {a b : List PV} (ha : GV a) (hb : GV b) : Known Tryz.prog 33 (pair a b) (.agg (vCons a b nl)) := by
  have h := t_okMake
  unfold okMake at h
  simp only [Bool.and_eq_true] at h
  have e1 : subL (pick (a ++ (b ++ []))) (U 0) = a := subL_urP (pre := []) (k := a) (post := b ++ []) (a := 0) rfl ha.seven
  have e2 : subL (pick (a ++ (b ++ []))) (U 1) = b := subL_urP (pre := a) (k := b) (post := []) (a := 7) (by rw [ha.seven]) hb.seven
  have := chk_use (fit_pick (cells_app ha.cells (cells_app hb.cells (by simp)))) e33ok h.1.1.1.1.2 trivial (σ := pick (a ++ (b ++ [])))
  simpa only [sub_pair, vCons, subL_cons (pick _) (i 7), subL_cons (pick _) (i 0), subL_cons (pick _) (sb []), subL_cons (pick _) (slOf _), subL_cons (pick _) nl, subL_nil, sub_agg, sub_v, sub_slOf, subE_cons, subE_nil, e1, e2] using this
theorem mkInt {c : PV} (hc : Cell c) : Known Tryz.prog 57 [c] (.agg (vInt c nl)) := by
  have h := t_okMake
  unfold okMake at h
  simp only [Bool.and_eq_true] at h
  have := chk_use (fit_pick (one hc)) e57ok h.1.1.1.2 trivial
  simpa only [vInt, subL_cons, subL_nil, sub_agg, sub_v, sub_unk, pick_at (l := [c]) (n := 0) (c := c) rfl] using this
theorem mkAtom {c : PV} (hc : Cell c) : Known Tryz.prog 59 [c] (.agg (vAtom c nl)) := by
  have h := t_okMake
  unfold okMake at h
  simp only [Bool.and_eq_true] at h
  have := chk_use (fit_pick (one hc)) e59ok h.1.1.2 trivial
  simpa only [vAtom, subL_cons, subL_nil, sub_agg, sub_v, sub_unk, pick_at (l := [c]) (n := 0) (c := c) rfl] using this
theorem mkStr {c : PV} (hc : Cell c) : Known Tryz.prog 61 [c] (.agg (vStr c nl)) := by
  have h := t_okMake
  unfold okMake at h
  simp only [Bool.and_eq_true] at h
  have := chk_use (fit_pick (one hc)) e61ok h.1.2 trivial
  simpa only [vStr, subL_cons, subL_nil, sub_agg, sub_v, sub_unk, pick_at (l := [c]) (n := 0) (c := c) rfl] using this
theorem mkPid {c : PV} (hc : Cell c) : Known Tryz.prog 63 [c] (.agg (vPid c nl)) := by
  have h := t_okMake
  unfold okMake at h
  simp only [Bool.and_eq_true] at h
  have := chk_use (fit_pick (one hc)) e63ok h.2 trivial
  simpa only [vPid, subL_cons, subL_nil, sub_agg, sub_v, sub_unk, pick_at (l := [c]) (n := 0) (c := c) rfl] using this
theorem mkMap {ks vs : List (List PV)} (hk : ∀ k ∈ ks, k ∈ keys) (hv : ∀ v ∈ vs, GV v) (hl : ks.length = vs.length) (hn : ks.length ≤ 2) : Known Tryz.prog 35 [slOf ks, slOf vs] (mapRes ks vs) := by
  have hs : Seven vs := fun k hk' => (hv k hk').seven
  have hc : ∀ k ∈ vs, ∀ c ∈ k, Cell c := fun k hk' => (hv k hk').cells
  have hu := subE_Us [] hs
  have hf := fit_pick (cells_app (cells_flat hc) (by simp : ∀ c ∈ ([] : List PV), Cell c))
  rcases ks with _ | ⟨a, _ | ⟨b, _ | ⟨c, r⟩⟩⟩
  · obtain rfl : vs = [] := by cases vs; rfl; simp at hl
    have h := t_okMkMap
    unfold okMkMap at h
    rw [Bool.and_eq_true] at h
    have := chk_use fit0 e35ok h.1 trivial
    simpa only [mapRes, vMap, slOf, subL_cons, subL_nil, sub_tup, sub_agg, sub_v] using this
  · obtain ⟨u, rfl⟩ : ∃ u, vs = [u] := by
      rcases vs with _ | ⟨u, _ | ⟨w, r⟩⟩
      · simp at hl
      · exact ⟨u, rfl⟩
      · simp at hl
    have h := t_okMkMap
    unfold okMkMap at h
    rw [Bool.and_eq_true] at h
    have h1 := List.all_eq_true.1 h.2 a (hk a (by simp))
    have := chk_use (σ := pick ([u].flatten ++ [])) hf e35ok h1 trivial
    have ea : subL (pick ([u].flatten ++ [])) a = a := subL_cells (c_keys a (hk a (by simp)))
    have hu' : subE (pick ([u].flatten ++ [])) (Us 0 1) = [u] := hu
    have hm : sub (pick ([u].flatten ++ [])) (mapRes [a] (Us 0 1)) = mapRes [a] [u] := by
      simp only [Us, mapRes, vMap] at hu' ⊢
      simp only [sub_tup, subL_cons (pick _) (PV.agg _), sub_agg, subL_cons (pick _) (i _), subL_cons (pick _) (sb []), subL_cons (pick _) (slOf _), subL_cons (pick _) nl, subL_nil, sub_v, sub_slOf, hu', subE_cons, subE_nil, ea]
    rw [hm] at this
    simpa only [subL_cons (pick _) (slOf _), subL_nil, sub_slOf, hu', subE_cons, subE_nil, ea] using this
  · obtain ⟨u, w, rfl⟩ : ∃ u w, vs = [u, w] := by
      rcases vs with _ | ⟨u, _ | ⟨w, _ | ⟨x, r⟩⟩⟩
      · simp at hl
      · simp at hl
      · exact ⟨u, w, rfl⟩
      · simp at hl
    have h := t_okMkMap2
    unfold okMkMap2 at h
    have h1 := List.all_eq_true.1 (List.all_eq_true.1 h a (hk a (by simp))) b (hk b (by simp))
    have := chk_use (σ := pick ([u, w].flatten ++ [])) hf e35ok h1 trivial
    have ea : subL (pick ([u, w].flatten ++ [])) a = a := subL_cells (c_keys a (hk a (by simp)))
    have eb : subL (pick ([u, w].flatten ++ [])) b = b := subL_cells (c_keys b (hk b (by simp)))
    have hu' : subE (pick ([u, w].flatten ++ [])) (Us 0 2) = [u, w] := hu
    have e0 : subL (pick ([u, w].flatten ++ [])) (U 0) = u := by
      simp only [Us, subE_cons, subE_nil, List.cons.injEq] at hu'; exact hu'.1
    have e1 : subL (pick ([u, w].flatten ++ [])) (U 1) = w := by
      simp only [Us, subE_cons, subE_nil, List.cons.injEq] at hu'; exact hu'.2.1
    have hm : sub (pick ([u, w].flatten ++ [])) (mapRes [a, b] (Us 0 2)) = mapRes [a, b] [u, w] := by
      simp only [Us, mapRes]
      split
      · simp only [sub_tup, subL_cons (pick _) (PV.agg _), sub_agg, sub_zero, subL_cons (pick _) (i _), subL_nil, sub_v]
      · split
        · simp only [sub_tup, subL_cons (pick _) (PV.agg _), sub_agg, vMap, subL_cons (pick _) (i _), subL_cons (pick _) (sb []), subL_cons (pick _) (slOf _), subL_cons (pick _) nl, subL_nil, sub_v, sub_slOf, subE_cons, subE_nil, ea, eb, e0, e1]
        · simp only [sub_tup, subL_cons (pick _) (PV.agg _), sub_agg, vMap, subL_cons (pick _) (i _), subL_cons (pick _) (sb []), subL_cons (pick _) (slOf _), subL_cons (pick _) nl, subL_nil, sub_v, sub_slOf, subE_cons, subE_nil, ea, eb, e0, e1]
    rw [hm] at this
    simpa only [subL_cons (pick _) (slOf _), subL_nil, sub_slOf, hu', subE_cons, subE_nil, ea, eb] using this
  · simp at hn
theorem keyCmp_lists : ∀ a ∈ keys, ∀ b ∈ keys, keyCmp a b < 0 → ∃ ks ∈ keyLists, ks = [a, b] := by
  have hb : (keys.all fun a => keys.all fun b => !decide (keyCmp a b < 0) || keyLists.any fun ks => match ks with
    | [c, d] => keyEqB a c && keyEqB b d
    | _ => false) = true := by decide
  intro a ha b hb' hlt
  have h1 := List.all_eq_true.1 (List.all_eq_true.1 hb a ha) b hb'
  rw [Bool.or_eq_true] at h1
  rcases h1 with h1 | h1
  · simp [hlt] at h1
  · obtain ⟨ks, hk, e⟩ := List.any_eq_true.1 h1
    split at e
    · rename_i c d
      rw [Bool.and_eq_true] at e
      exact ⟨_, hk, by rw [keyEqB_eq e.1, keyEqB_eq e.2]⟩
    · cases e
theorem mapOut {ks vs : List (List PV)} (hk : ∀ k ∈ ks, k ∈ keys) (hv : ∀ v ∈ vs, GV v) (hl : ks.length = vs.length) (hn : ks.length ≤ 2) :
    mapRes ks vs = .tup [.agg zero, i 6] ∨ ∃ ks' vs', mapRes ks vs = .tup [.agg (vMap ks' vs' nl), i 0] ∧ ks' ∈ keyLists ∧ vs'.length = ks'.length ∧ ∀ v ∈ vs', v ∈ vs := by
  rcases ks with _ | ⟨a, _ | ⟨b, _ | ⟨c, r⟩⟩⟩
  · obtain rfl : vs = [] := by cases vs; rfl; simp at hl
    exact .inr ⟨[], [], rfl, by simp [keyLists], rfl, by simp⟩
  · obtain ⟨u, rfl⟩ : ∃ u, vs = [u] := by
      rcases vs with _ | ⟨u, _ | ⟨w, r⟩⟩
      · simp at hl
      · exact ⟨u, rfl⟩
      · simp at hl
    refine .inr ⟨[a], [u], rfl, ?_, rfl, by simp⟩
    have := hk a (by simp)
    simp only [keyLists, List.cons_append, List.mem_cons, List.mem_append, List.mem_map]
    exact .inr (.inl ⟨a, this, rfl⟩)
  · obtain ⟨u, w, rfl⟩ : ∃ u w, vs = [u, w] := by
      rcases vs with _ | ⟨u, _ | ⟨w, _ | ⟨x, r⟩⟩⟩
      · simp at hl
      · simp at hl
      · exact ⟨u, w, rfl⟩
      · simp at hl
    have ha := hk a (by simp)
    have hb := hk b (by simp)
    simp only [mapRes]
    by_cases h0 : keyCmp a b = 0
    · rw [if_pos h0]; exact .inl rfl
    · rw [if_neg h0]
      by_cases h1 : keyCmp a b < 0
      · rw [if_pos h1]
        obtain ⟨ks, hm, e⟩ := keyCmp_lists a ha b hb h1
        exact .inr ⟨[a, b], [u, w], rfl, by rw [← e]; exact hm, rfl, by simp⟩
      · rw [if_neg h1]
        have := (key_S3 a ha b hb).2
        obtain ⟨ks, hm, e⟩ := keyCmp_lists b hb a ha (by omega)
        exact .inr ⟨[b, a], [w, u], rfl, by rw [← e]; exact hm, rfl, by simp⟩
  · simp at hn
abbrev Ent := List (List PV) × Option (List PV)
def ents (ps : List Ent) : List (List PV) := ps.map fun p => ent p.1 p.2
/-- entries of values -/
structure EntsOk (n : Nat) (ps : List Ent) : Prop where
  len : ps.length ≤ 2
  args : ∀ p ∈ ps, p.1.length = n
  gvA : ∀ p ∈ ps, ∀ a ∈ p.1, GV a
  gvR : ∀ p ∈ ps, ∀ r, p.2 = some r → GV r
theorem mkFun {n : Nat} (hn : n ≤ 2) {ps : List Ent} (h : EntsOk n ps) {c : Int} (hc : c ∈ S3) (hcmp : ∀ a b, ents ps = [a, b] → Known Tryz.prog 104 (pair a b) (num c)) : Known Tryz.prog 37 [i n, slOf (ents ps)] (funRes (i n) (ents ps) c) := by
  have g : okMkFun n = true := by
    match n, hn with
    | 0, _ => exact t_okMkFun_0
    | 1, _ => exact t_okMkFun_1
    | 2, _ => exact t_okMkFun_2
  unfold okMkFun at g
  have h2 := List.all_eq_true.1 (List.all_eq_true.1 g (ps.map fun p => isN p.2) (flags_mem _ h.len)) c hc
  obtain ⟨e1, e2⟩ := sub_entsP (n := n) (ps := ps) (pre := []) (post := []) (a := 0) rfl h.args (fun p hp' k hk => (h.gvA p hp' k hk).seven) (fun p hp' x hx => (h.gvR p hp' x hx).seven)
  simp only [List.nil_append, List.append_nil] at e1 e2
  have hcells := entFill_cells (ps := ps) (fun p hp' x hx => (h.gvA p hp' x hx).cells) (fun p hp' x hx => (h.gvR p hp' x hx).cells)
  have hpg : ∀ (es : List (List PV)), subP (pick (entFill ps)) (cPage es c) = cPage (subE (pick (entFill ps)) es) c := by
    intro es
    rcases es with _ | ⟨a, _ | ⟨b, _ | ⟨d, r⟩⟩⟩
    · rfl
    · rfl
    · simp only [cPage, subP, subE_cons, subE_nil, sub_pair, sub_v]
    · simp only [cPage, subP, subE_cons]
  have hfr : ∀ (es : List (List PV)), sub (pick (entFill ps)) (funRes (i n) es c) = funRes (i n) (subE (pick (entFill ps)) es) c := by
    intro es
    rcases es with _ | ⟨a, _ | ⟨b, _ | ⟨d, r⟩⟩⟩
    · simp only [funRes, sub_tup, subL_cons, subL_nil, sub_agg, vFun, sub_v, sub_slOf, subE_nil]
    · simp only [funRes, sub_tup, subL_cons, subL_nil, sub_agg, vFun, sub_v, sub_slOf, subE_nil, subE_cons]
    · simp only [funRes, subE_cons, subE_nil]
      split
      · simp only [sub_tup, subL_cons, subL_nil, sub_agg, vFun, sub_v, sub_slOf, subE_nil, subE_cons]
      · split <;> simp only [sub_tup, subL_cons, subL_nil, sub_agg, vFun, sub_v, sub_slOf, subE_nil, subE_cons]
    · simp only [funRes, sub_tup, subL_cons, subL_nil, sub_agg, vFun, sub_v, sub_slOf, subE_nil, subE_cons]
  have hcp : PageOk Tryz.prog 104 (cPage (ents ps) c) := by
    rcases hes : ents ps with _ | ⟨a, _ | ⟨b, _ | ⟨d, r⟩⟩⟩
    · trivial
    · trivial
    · exact ⟨hcmp a b hes, trivial⟩
    · trivial
  have := chk_use (fit_pick hcells) e37ok h2 (σ := pick (entFill ps)) (by
    simp only [subB, hpg, e1, subP, sub_pair, sub_zero, sub_v]
    exact ⟨hcp, ⟨zero_eq, trivial⟩, trivial⟩)
  rw [hfr, e1] at this
  simp only [subL_cons, subL_nil, sub_v, sub_slOf, e1] at this
  exact this
theorem ents_CC {n : Nat} (hn : n ≤ 2) {ps : List Ent} (h : EntsOk n ps) {p q : Ent} (hp : p ∈ ps) (hq : q ∈ ps) : CC 104 (.agg (ent p.1 p.2)) (.agg (ent q.1 q.2)) := by
  have l1 := h.args p hp
  have l2 := h.args q hq
  have c1 : ∀ k ∈ p.1, ∀ c ∈ k, Cell c := fun x hx => (h.gvA p hp x hx).cells
  have c2 : ∀ k ∈ q.1, ∀ c ∈ k, Cell c := fun x hx => (h.gvA q hq x hx).cells
  exact entCC c1 c2 (fun x hx => ⟨(h.gvR p hp x hx).seven, (h.gvR p hp x hx).cells⟩) (fun x hx => ⟨(h.gvR q hq x hx).seven, (h.gvR q hq x hx).cells⟩)
    (valsCC (fun x hx => (h.gvA p hp x hx).seven) (fun x hx => (h.gvA q hq x hx).seven) c1 c2 (by omega) (by omega) fun x hx y hy => compareCC (h.gvA p hp x hx) (h.gvA q hq y hy))
    fun x y hx hy => compareCC (h.gvR p hp x hx) (h.gvR q hq y hy)
/-- what Function answers is a value; its entries are among those given -/
theorem funOut {n : Nat} (hn : n ≤ 2) {ps : List Ent} (h : EntsOk n ps) : ∃ c qs, c ∈ S3 ∧ (∀ a b, ents ps = [a, b] → Known Tryz.prog 104 (pair a b) (num c)) ∧ funRes (i n) (ents ps) c = .tup [.agg (vFun (i n) (ents qs) nl), i 0] ∧ GV (vFun (i n) (ents qs) nl) ∧ ∀ q ∈ qs, q ∈ ps := by
  have hlab : nl ∈ labels := by simp [labels]
  rcases ps with _ | ⟨p, _ | ⟨q, _ | ⟨d, r⟩⟩⟩
  · exact ⟨0, [], by decide, by simp [ents], rfl, GV.fn hn (ps := []) h.len h.args h.gvA h.gvR (by simp) hlab, by simp⟩
  · exact ⟨0, [p], by decide, by simp [ents], rfl, GV.fn hn (ps := [p]) h.len h.args h.gvA h.gvR (by simp) hlab, by simp⟩
  · obtain ⟨c, hc, k1, k2⟩ := ents_CC hn h (p := p) (q := q) (by simp) (by simp)
    have hcmp : ∀ a b, ents [p, q] = [a, b] → Known Tryz.prog 104 (pair a b) (num c) := by
      intro a b e
      simp only [ents, List.map_cons, List.map_nil, List.cons.injEq, and_true] at e
      rw [← e.1, ← e.2]
      exact k1
    simp only [funRes, ents, List.map_cons, List.map_nil] at *
    rcases of_S3 hc with rfl | rfl | rfl
    · refine ⟨-1, [p, q], hc, hcmp, rfl, GV.fn hn (ps := [p, q]) h.len h.args h.gvA h.gvR ?_ hlab, by simp⟩
      intro a b e
      simp only [List.map_cons, List.map_nil, List.cons.injEq, and_true] at e
      rw [← e.1, ← e.2]
      exact k1
    · refine ⟨0, [p], hc, hcmp, rfl, GV.fn hn (ps := [p]) (by simp) ?_ ?_ ?_ (by simp) hlab, by simp⟩
      · intro x hx; simp at hx; subst hx; exact h.args x (by simp)
      · intro x hx; simp at hx; subst hx; exact h.gvA x (by simp)
      · intro x hx; simp at hx; subst hx; exact h.gvR x (by simp)
    · refine ⟨1, [q, p], hc, hcmp, rfl, GV.fn hn (ps := [q, p]) (by simp) ?_ ?_ ?_ ?_ hlab, by simp⟩
      · intro x hx; simp at hx; exact h.args x (by simp; exact hx.symm)
      · intro x hx; simp at hx; exact h.gvA x (by simp; exact hx.symm)
      · intro x hx; simp at hx; exact h.gvR x (by simp; exact hx.symm)
      · intro a b e
        simp only [List.map_cons, List.map_nil, List.cons.injEq, and_true] at e
        rw [← e.1, ← e.2]
        exact k2
  · have := h.len; simp at this
theorem mkSort {ls : List (List PV)} (hl : ∀ e ∈ ls, e ∈ labs3) (hn : ls.length ≤ 2) : Known Tryz.prog 39 [slOf ls] (labRes ls) ∧ labRes ls ∈ labels := by
  have h := t_okSort
  unfold okSort at h
  simp only [Bool.and_eq_true] at h
  have c3 : ∀ e ∈ labs3, ∀ c ∈ e, Cell c := cellss_of rfl
  have cl : ∀ c ∈ labels, sub (pick []) c = c := fun c hc => sub_cell (c_labels c hc)
  have m1 : ∀ a ∈ labs3, labRes [a] ∈ labels := by
    intro a ha
    simp only [labs3, List.mem_cons, List.not_mem_nil, or_false] at ha
    rcases ha with rfl | rfl | rfl <;> simp [labRes, labels]
  have m2 : ∀ a ∈ labs3, ∀ b ∈ labs3, labRes [a, b] ∈ labels := by
    intro a ha b hb
    simp only [labs3, List.mem_cons, List.not_mem_nil, or_false] at ha hb
    rcases ha with rfl | rfl | rfl <;> rcases hb with rfl | rfl | rfl <;> (simp only [labRes]; first | (rw [if_pos (by decide)]; simp [labels]; done) | (rw [if_neg (by decide), if_pos (by decide)]; simp [labels]; done) | (rw [if_neg (by decide), if_neg (by decide)]; simp [labels]; done))
  rcases ls with _ | ⟨a, _ | ⟨b, _ | ⟨d, r⟩⟩⟩
  · have := chk_use fit0 e39ok h.1.1 trivial
    exact ⟨by simp only [subL_cons, subL_nil, sub_v] at this; exact this, by simp [labRes, slOf, labels]⟩
  · have ha := hl a (by simp)
    have := chk_use fit0 e39ok (List.all_eq_true.1 h.1.2 a ha) trivial
    rw [cl _ (m1 a ha)] at this
    exact ⟨by simpa only [subL_cons (pick []) (slOf _), subL_nil, sub_slOf, subE_cells (l := [a]) (by intro e he; simp at he; subst he; exact c3 e ha)] using this, m1 a ha⟩
  · have ha := hl a (by simp)
    have hb := hl b (by simp)
    have := chk_use fit0 e39ok (List.all_eq_true.1 (List.all_eq_true.1 h.2 a ha) b hb) trivial
    rw [cl _ (m2 a ha b hb)] at this
    exact ⟨by simpa only [subL_cons (pick []) (slOf _), subL_nil, sub_slOf, subE_cells (l := [a, b]) (by
      intro e he
      simp at he
      rcases he with rfl | rfl
      · exact c3 _ ha
      · exact c3 _ hb)] using this, m2 a ha b hb⟩
  · simp at hn
end
end Go.Ev.D
