/- Shapes filled with values. -/
import Derived.Test.YtpahaogeenalpaaGreatEvVals
import Derived.Test.YtpahaogeenalpaaGreatEvFa
import Derived.Test.YtpahaogeenalpaaGreatEvFb
import Derived.Test.YtpahaogeenalpaaGreatEvFf
set_option linter.all false
/- Shapes filled with values. -/
namespace Go.Ev
open Go.Proofs
def subP (σ : Nat → PV) : Page → Page
  | [] => []
  | (es, q) :: r => (subL σ es, sub σ q) :: subP σ r
def subB (σ : Nat → PV) : Book → Book
  | [] => []
  | (g, p) :: r => (g, subP σ p) :: subB σ r
theorem pageOk_sub {E : Env} {σ : Nat → PV} (hσ : Fit σ) {P : Program} {g : Nat} : ∀ {p : Page}, @PageOk E P g (subP σ p) → @PageOk (E.put σ hσ.form) P g p
  | [], _ => trivial
  | (es, q) :: r, h => ⟨(Known.sub hσ).2 h.1, pageOk_sub hσ h.2⟩
theorem bookOk_sub {E : Env} {σ : Nat → PV} (hσ : Fit σ) {P : Program} : ∀ {B : Book}, @BookOk E P (subB σ B) → @BookOk (E.put σ hσ.form) P B
  | [], _ => trivial
  | (g, p) :: r, h => ⟨pageOk_sub hσ h.1, bookOk_sub hσ h.2⟩
theorem comes_use {E : Env} {σ : Nat → PV} (hσ : Fit σ) {FT : Fns} (hF : FTOk Tryz.prog FT) {f : Nat} {fi : FI} (hf : FIOk Tryz.prog f fi) {B : Book} {n : Nat} {ds : List PV} {q : PV}
    (h : comesF tys FT B n fi ds q = true) (hB : @BookOk E Tryz.prog (subB σ B)) : @Known E Tryz.prog f (subL σ ds) (sub σ q) :=
  (Known.sub hσ).1 (@known_ofF (E.put σ hσ.form) _ _ (@tOk (E.put σ hσ.form)) mixed _ hF _ (bookOk_sub hσ hB) _ _ hf _ _ _ h)
namespace D
section
variable [E : Env]
theorem chk_use {σ : Nat → PV} (hσ : Fit σ) {f : Nat} {fi : FI} (hf : FIOk Tryz.prog f fi) {B : Book} {ds : List PV} {q : PV}
    (h : chk fi B ds q = true) (hB : BookOk Tryz.prog (subB σ B)) : Known Tryz.prog f (subL σ ds) (sub σ q) := comes_use hσ fnsFOk hf h hB
theorem chkC_use {σ : Nat → PV} (hσ : Fit σ) {f : Nat} {fi : FI} (hf : FIOk Tryz.prog f fi) {B : Book} {ds : List PV} {q : PV}
    (h : chkC fi B ds q = true) (hB : BookOk Tryz.prog (subB σ B)) : Known Tryz.prog f (subL σ ds) (sub σ q) := comes_use hσ fnsCOk hf h hB
theorem chkM_use {σ : Nat → PV} (hσ : Fit σ) {f : Nat} {fi : FI} (hf : FIOk Tryz.prog f fi) {ds : List PV} {q : PV}
    (h : chkM fi ds q = true) : Known Tryz.prog f (subL σ ds) (sub σ q) := comes_use hσ fnsMOk hf h trivial
end
/-- what a cell of a value may be -/
def Cell (c : PV) : Prop := clean c = true ∧ ((∃ x, c = .v x) ∨ ∃ es ex, c = .sl es ex)
theorem cell_v (x : Value) : Cell (.v x) := ⟨rfl, .inl ⟨x, rfl⟩⟩
def pick (l : List PV) (n : Nat) : PV := match l[n]? with
  | some c => c
  | none => nl
theorem fit_pick {l : List PV} (h : ∀ c ∈ l, Cell c) : Fit (pick l) := by
  have : ∀ n, Cell (pick l n) := by
    intro n
    unfold pick
    cases hc : l[n]? with
    | none => exact cell_v _
    | some c => exact h c (List.mem_of_getElem? hc)
  exact ⟨fun n => (this n).2, fun n => (this n).1⟩
theorem pick_at {l : List PV} {n : Nat} {c : PV} (h : l[n]? = some c) : pick l n = c := by unfold pick; rw [h]
theorem subL_ur (σ : Nat → PV) : ∀ (n a : Nat), subL σ (ur a n) = (List.range n).map fun k => σ (a + k)
  | 0, a => rfl
  | n + 1, a => by
    show sub σ (.unk a) :: subL σ (ur (a + 1) n) = _
    rw [subL_ur σ n (a + 1), List.range_succ_eq_map, sub]
    simp only [List.map_cons, List.map_map, Nat.add_zero]
    congr 1
    apply List.map_congr_left
    intro k _
    simp only [Function.comp]
    congr 1
    omega
theorem subL_urP {pre k post : List PV} {a : Nat} (ha : a = pre.length) {n : Nat} (hk : k.length = n) : subL (pick (pre ++ (k ++ post))) (ur a n) = k := by
  rw [subL_ur]
  apply List.ext_getElem?
  intro m
  rw [List.getElem?_map]
  by_cases hm : m < n
  · rw [List.getElem?_range hm]
    have : k[m]? = some (k[m]'(by omega)) := List.getElem?_eq_getElem (by omega)
    rw [this]
    simp only [Option.map_some, Option.some.injEq]
    apply pick_at
    rw [ha, List.getElem?_append_right (by omega), show pre.length + m - pre.length = m by omega, List.getElem?_append_left (by omega), this]
  · rw [List.getElem?_eq_none (by simp; omega), List.getElem?_eq_none (by omega)]; rfl
def Seven (ks : List (List PV)) : Prop := ∀ k ∈ ks, k.length = 7
theorem seven_flat : ∀ {ks : List (List PV)}, Seven ks → ks.flatten.length = 7 * ks.length
  | [], _ => rfl
  | k :: ks, h => by
    have h1 := h k (by simp)
    have h2 := seven_flat (ks := ks) fun x hx => h x (by simp [hx])
    simp only [List.flatten_cons, List.length_append, List.length_cons, h1, h2]
    omega
theorem subE_UsP : ∀ {mid : List (List PV)} {pre : List PV} {post : List PV} {a : Nat}, pre.length = 7 * a → Seven mid → subE (pick (pre ++ (mid.flatten ++ post))) (Us a mid.length) = mid
  | [], _, _, _, _, _ => rfl
  | k :: mid, pre, post, a, hp, h => by
    have h1 := h k (by simp)
    show subL _ (U a) :: subE _ (Us (a + 1) mid.length) = _
    congr 1
    · unfold U
      rw [List.flatten_cons, List.append_assoc]
      exact subL_urP hp.symm h1
    · rw [List.flatten_cons, List.append_assoc, ← List.append_assoc]
      exact subE_UsP (by simp [hp, h1]; omega) fun x hx => h x (by simp [hx])
theorem subE_Us {ks : List (List PV)} (post : List PV) (h : Seven ks) : subE (pick (ks.flatten ++ post)) (Us 0 ks.length) = ks :=
  subE_UsP (pre := []) (a := 0) rfl h
theorem sub_slOf (σ : Nat → PV) (es : List (List PV)) : sub σ (slOf es) = slOf (subE σ es) := by
  cases es with
  | nil => rfl
  | cons e r => show PV.sl (subE σ (e :: r)) false = slOf (subE σ (e :: r)); rw [subE]; rfl
theorem sub_v (σ : Nat → PV) (x : Value) : sub σ (.v x) = .v x := by rw [sub]
theorem sub_agg (σ : Nat → PV) (cs : List PV) : sub σ (.agg cs) = .agg (subL σ cs) := by rw [sub]
theorem sub_tup (σ : Nat → PV) (cs : List PV) : sub σ (.tup cs) = .tup (subL σ cs) := by rw [sub]
theorem sub_unk (σ : Nat → PV) (n : Nat) : sub σ (.unk n) = σ n := by rw [sub]
theorem subL_cons (σ : Nat → PV) (c : PV) (cs : List PV) : subL σ (c :: cs) = sub σ c :: subL σ cs := by rw [subL]
theorem subL_nil (σ : Nat → PV) : subL σ [] = [] := by rw [subL]
theorem subE_cons (σ : Nat → PV) (c : List PV) (cs : List (List PV)) : subE σ (c :: cs) = subL σ c :: subE σ cs := by rw [subE]
theorem subE_nil (σ : Nat → PV) : subE σ [] = [] := by rw [subE]
theorem sub_cell {σ : Nat → PV} {c : PV} (h : Cell c) : sub σ c = c := sub_clean σ c h.1
theorem subL_cells {σ : Nat → PV} : ∀ {l : List PV}, (∀ c ∈ l, Cell c) → subL σ l = l
  | [], _ => rfl
  | c :: l, h => by rw [subL, sub_cell (h c (by simp)), subL_cells fun d hd => h d (by simp [hd])]
theorem subE_cells {σ : Nat → PV} : ∀ {l : List (List PV)}, (∀ e ∈ l, ∀ c ∈ e, Cell c) → subE σ l = l
  | [], _ => rfl
  | c :: l, h => by rw [subE, subL_cells (h c (by simp)), subE_cells fun d hd => h d (by simp [hd])]
theorem cell_slOf {es : List (List PV)} (h : ∀ e ∈ es, ∀ c ∈ e, Cell c) : Cell (slOf es) := by
  cases es with
  | nil => exact cell_v _
  | cons e r =>
    refine ⟨?_, .inr ⟨_, _, rfl⟩⟩
    show cleanE (e :: r) = true
    generalize hss : e :: r = ss at h
    clear hss
    have cl : ∀ (cs : List PV), (∀ c ∈ cs, Cell c) → cleanL cs = true := by
      intro cs hc
      induction cs with
      | nil => rfl
      | cons c cs ih => simp only [cleanL, Bool.and_eq_true]; exact ⟨(hc c (by simp)).1, ih fun d hd => hc d (by simp [hd])⟩
    induction ss with
    | nil => rfl
    | cons s ss ih => simp only [cleanE, Bool.and_eq_true]; exact ⟨cl s (h s (by simp)), ih fun e' he => h e' (by simp [he])⟩
/-! ### values -/
section
variable [E : Env]
/-- what is asked of all values that are made -/
inductive GV : List PV → Prop
  | int {n l} : n ∈ nums → l ∈ labels → GV (vInt n l)
  | str {t l} : t ∈ words → l ∈ labels → GV (vStr t l)
  | atom {t l} : t ∈ atoms → l ∈ labels → GV (vAtom t l)
  | pid {n l} : n ∈ pids → l ∈ labels → GV (vPid n l)
  | nil {l} : l ∈ labels → GV (vNil l)
  | tup {ks l} : ks.length ≤ 3 → (∀ k ∈ ks, GV k) → l ∈ labels → GV (vTup ks l)
  | cons {h t l} : GV h → GV t → (∃ r, t = i 5 :: r ∨ t = i 7 :: r) → l ∈ labels → GV (vCons h t l)
  | map {keys ks l} : keys ∈ keyLists → ks.length = keys.length → (∀ k ∈ ks, GV k) → l ∈ labels → GV (vMap keys ks l)
  | fn {n : Nat} {ps : List (List (List PV) × Option (List PV))} {l} : n ≤ 2 → ps.length ≤ 2 → (∀ p ∈ ps, p.1.length = n) → (∀ p ∈ ps, ∀ a ∈ p.1, GV a) → (∀ p ∈ ps, ∀ r, p.2 = some r → GV r) →
      (∀ a b, ps.map (fun p => ent p.1 p.2) = [a, b] → Known Tryz.prog 104 (pair a b) (j 0)) → l ∈ labels → GV (vFun (i n) (ps.map fun p => ent p.1 p.2) l)
end
end D
end Go.Ev

/- All values that are made are valid. -/
namespace Go.Ev.D
open Go.Proofs
def cellB (c : PV) : Bool := clean c && match c with
  | .v _ => true
  | .sl _ _ => true
  | _ => false
theorem cell_of {c : PV} (h : cellB c = true) : Cell c := by
  unfold cellB at h
  rw [Bool.and_eq_true] at h
  refine ⟨h.1, ?_⟩
  cases c <;> first | exact .inl ⟨_, rfl⟩ | exact .inr ⟨_, _, rfl⟩ | (simp at h)
theorem cells_of {l : List PV} (h : l.all cellB = true) : ∀ c ∈ l, Cell c := fun c hc => cell_of (List.all_eq_true.1 h c hc)
theorem cellss_of {l : List (List PV)} (h : (l.all fun e => e.all cellB) = true) : ∀ e ∈ l, ∀ c ∈ e, Cell c := fun e he => cells_of (List.all_eq_true.1 h e he)
theorem c_labels : ∀ c ∈ labels, Cell c := cells_of rfl
theorem c_atoms : ∀ c ∈ atoms, Cell c := cells_of rfl
theorem c_words : ∀ c ∈ words, Cell c := cells_of rfl
theorem c_nums : ∀ c ∈ nums, Cell c := cells_of rfl
theorem c_pids : ∀ c ∈ pids, Cell c := cells_of rfl
theorem c_zero : ∀ c ∈ zero, Cell c := cells_of rfl
theorem c_keys : ∀ e ∈ keys, ∀ c ∈ e, Cell c := cellss_of rfl
theorem c_keyLists : ∀ ks ∈ keyLists, ∀ e ∈ ks, ∀ c ∈ e, Cell c := fun ks hk => cellss_of (List.all_eq_true.1 (by decide : (keyLists.all fun ks => ks.all fun e => e.all cellB) = true) ks hk)
theorem cI (n : Nat) : Cell (i n) := cell_v _
theorem cS (l : List Nat) : Cell (sb l) := cell_v _
theorem cN : Cell nl := cell_v _
theorem cB (b : Bool) : Cell (bo b) := cell_v _
section
variable [E : Env]
theorem GV.seven {k : List PV} (h : GV k) : k.length = 7 := by cases h <;> rfl
theorem ent_len {xs : List (List PV)} {r : Option (List PV)} (h : ∀ x, r = some x → x.length = 7) : (ent xs r).length = 9 := by
  cases r with
  | none => rfl
  | some x => have := h x rfl; simp [ent, this]
theorem cells7 {a b c d e f g : PV} (h0 : Cell a) (h1 : Cell b) (h2 : Cell c) (h3 : Cell d) (h4 : Cell e) (h5 : Cell f) (h6 : Cell g) : ∀ x ∈ [a, b, c, d, e, f, g], Cell x := by
  intro x hx
  simp only [List.mem_cons, List.not_mem_nil, or_false] at hx
  rcases hx with rfl | rfl | rfl | rfl | rfl | rfl | rfl <;> assumption
theorem ent_cells {xs : List (List PV)} {r : Option (List PV)} (h1 : ∀ x ∈ xs, ∀ c ∈ x, Cell c) (h2 : ∀ x, r = some x → ∀ c ∈ x, Cell c) : ∀ c ∈ ent xs r, Cell c := by
  intro c hc
  cases r with
  | none =>
    simp only [ent, List.mem_cons] at hc
    rcases hc with rfl | rfl | hc
    · exact cell_slOf h1
    · exact cB _
    · exact c_zero c hc
  | some x =>
    simp only [ent, List.mem_cons] at hc
    rcases hc with rfl | rfl | hc
    · exact cell_slOf h1
    · exact cB _
    · exact h2 x rfl c hc
theorem GV.cells {k : List PV} (h : GV k) : ∀ c ∈ k, Cell c := by
  induction h with
  | int hn hl => exact cells7 (cI _) (c_nums _ hn) (cS _) cN cN cN (c_labels _ hl)
  | str hn hl => exact cells7 (cI _) (cI _) (c_words _ hn) cN cN cN (c_labels _ hl)
  | atom hn hl => exact cells7 (cI _) (cI _) (c_atoms _ hn) cN cN cN (c_labels _ hl)
  | pid hn hl => exact cells7 (cI _) (c_pids _ hn) (cS _) cN cN cN (c_labels _ hl)
  | nil hl => exact cells7 (cI _) (cI _) (cS _) cN cN cN (c_labels _ hl)
  | tup _ _ hl ih => exact cells7 (cI _) (cI _) (cS _) (cell_slOf ih) cN cN (c_labels _ hl)
  | cons _ _ _ hl ih1 ih2 =>
    refine cells7 (cI _) (cI _) (cS _) (cell_slOf ?_) cN cN (c_labels _ hl)
    intro e he
    simp only [List.mem_cons, List.not_mem_nil, or_false] at he
    rcases he with rfl | rfl <;> assumption
  | map hk _ _ hl ih => exact cells7 (cI _) (cI _) (cS _) (cell_slOf ih) (cell_slOf (c_keyLists _ hk)) cN (c_labels _ hl)
  | fn _ _ _ _ _ _ hl ih1 ih2 =>
    refine cells7 (cI _) (cI _) (cS _) cN cN (cell_slOf ?_) (c_labels _ hl)
    intro e he
    obtain ⟨p, hp, rfl⟩ := List.mem_map.1 he
    exact ent_cells (ih1 p hp) (ih2 p hp)
theorem cells_flat {ks : List (List PV)} (h : ∀ k ∈ ks, ∀ c ∈ k, Cell c) : ∀ c ∈ ks.flatten, Cell c := by
  intro c hc
  obtain ⟨k, hk, hc⟩ := List.mem_flatten.1 hc
  exact h k hk c hc
theorem cells_app {a b : List PV} (h1 : ∀ c ∈ a, Cell c) (h2 : ∀ c ∈ b, Cell c) : ∀ c ∈ a ++ b, Cell c := by
  intro c hc
  rcases List.mem_append.1 hc with h | h
  · exact h1 c h
  · exact h2 c h
theorem subP_allTrue (σ : Nat → PV) : ∀ us, subP σ (allTrue us) = allTrue (subE σ us)
  | [] => rfl
  | u :: us => by
    have := subP_allTrue σ us
    unfold allTrue at this ⊢
    simp only [List.map_cons, subP, this, subE_cons, subL_cons, sub_agg, subL_nil, sub_v]
theorem page_allTrue {f : Nat} : ∀ {ks : List (List PV)}, (∀ k ∈ ks, Known Tryz.prog f [.agg k] (bo true)) → PageOk Tryz.prog f (allTrue ks)
  | [], _ => trivial
  | k :: ks, h => ⟨h k (by simp), page_allTrue fun x hx => h x (by simp [hx])⟩
/-- what stands for the entries' unknown cells -/
def entFill : List (List (List PV) × Option (List PV)) → List PV
  | [] => []
  | p :: r => p.1.flatten ++ ((p.2.getD zero) ++ entFill r)
def entVals : List (List (List PV) × Option (List PV)) → List (List PV)
  | [] => []
  | p :: r => p.1 ++ (match p.2 with | none => [] | some x => [x]) ++ entVals r
theorem subE_append (σ : Nat → PV) : ∀ (a b : List (List PV)), subE σ (a ++ b) = subE σ a ++ subE σ b
  | [], b => rfl
  | x :: a, b => by simp only [List.cons_append, subE_cons, subE_append σ a b]
theorem sub_zero (σ : Nat → PV) : subL σ zero = zero := subL_cells c_zero
def isN {α : Type} : Option α → Bool
  | none => true
  | some _ => false
theorem sub_entN {n : Nat} {p : List (List PV) × Option (List PV)} {pre post : List PV} {a : Nat} (hp : pre.length = 7 * a) (h1 : p.1.length = n) (h2 : Seven p.1) (h3 : ∀ x, p.2 = some x → x.length = 7) :
    subL (pick (pre ++ (p.1.flatten ++ ((p.2.getD zero) ++ post)))) (entN a n (isN p.2)) = ent p.1 p.2 ∧
    subE (pick (pre ++ (p.1.flatten ++ ((p.2.getD zero) ++ post)))) (entKids a n (isN p.2)) = p.1 ++ (match p.2 with | none => [] | some x => [x]) := by
  obtain ⟨xs, r⟩ := p
  simp only at *
  have hU := subE_UsP (pre := pre) (mid := xs) (post := (r.getD zero) ++ post) hp h2
  rw [h1] at hU
  cases r with
  | none =>
    simp only [isN, entN, entKids, ent, Option.getD_none] at *
    refine ⟨?_, ?_⟩
    · rw [subL_cons, sub_slOf, hU, subL_cons, sub_v, sub_zero]
    · rw [List.append_nil, hU, List.append_nil]
  | some x =>
    simp only [isN, entN, entKids, ent, Option.getD_some] at *
    have hlen := seven_flat h2
    have hx : subL (pick (pre ++ (xs.flatten ++ (x ++ post)))) (U (a + n)) = x := by
      unfold U
      rw [← List.append_assoc]
      exact subL_urP (by simp [hlen, hp, h1]; omega) (h3 x rfl)
    refine ⟨?_, ?_⟩
    · rw [subL_cons, sub_slOf, hU, subL_cons, sub_v, hx]
    · rw [subE_append, hU, subE_cons, subE_nil, hx]
theorem sub_entsP {n : Nat} : ∀ {ps : List (List (List PV) × Option (List PV))} {pre post : List PV} {a : Nat}, pre.length = 7 * a → (∀ p ∈ ps, p.1.length = n) → (∀ p ∈ ps, Seven p.1) → (∀ p ∈ ps, ∀ x, p.2 = some x → x.length = 7) →
    subE (pick (pre ++ (entFill ps ++ post))) (entsN n (ps.map fun p => isN p.2) a) = (ps.map fun p => ent p.1 p.2) ∧ subE (pick (pre ++ (entFill ps ++ post))) (entsKids n (ps.map fun p => isN p.2) a) = entVals ps
  | [], _, _, _, _, _, _, _ => ⟨rfl, rfl⟩
  | p :: ps, pre, post, a, hp, h1, h2, h3 => by
    have e1 := sub_entN (n := n) (p := p) (pre := pre) (post := entFill ps ++ post) (a := a) hp (h1 p (by simp)) (h2 p (by simp)) (h3 p (by simp))
    have hl : (pre ++ (p.1.flatten ++ p.2.getD zero)).length = 7 * (a + n + 1) := by
      have := seven_flat (h2 p (by simp))
      have h5 : (p.2.getD zero).length = 7 := by
        cases hr : p.2 with
        | none => rfl
        | some x => exact h3 p (by simp) x hr
      simp only [List.length_append, this, h5, hp, h1 p (by simp)]
      omega
    have e2 := sub_entsP (ps := ps) (pre := pre ++ (p.1.flatten ++ p.2.getD zero)) (post := post) hl (fun q hq => h1 q (by simp [hq])) (fun q hq => h2 q (by simp [hq])) (fun q hq => h3 q (by simp [hq]))
    have hass : pre ++ (entFill (p :: ps) ++ post) = pre ++ (p.1.flatten ++ (p.2.getD zero ++ (entFill ps ++ post))) := by simp [entFill]
    have hass2 : (pre ++ (p.1.flatten ++ p.2.getD zero)) ++ (entFill ps ++ post) = pre ++ (p.1.flatten ++ (p.2.getD zero ++ (entFill ps ++ post))) := by simp
    rw [hass2] at e2
    rw [hass]
    simp only [List.map_cons, entsN, entsKids, entVals, subE_cons, subE_append]
    exact ⟨by rw [e1.1, e2.1], by rw [e1.2, e2.2]⟩
theorem entFill_cells {ps : List (List (List PV) × Option (List PV))} (h1 : ∀ p ∈ ps, ∀ x ∈ p.1, ∀ c ∈ x, Cell c) (h2 : ∀ p ∈ ps, ∀ x, p.2 = some x → ∀ c ∈ x, Cell c) : ∀ c ∈ entFill ps, Cell c := by
  induction ps with
  | nil => intro c hc; simp [entFill] at hc
  | cons p ps ih =>
    refine cells_app (cells_flat (h1 p (by simp))) (cells_app ?_ (ih (fun q hq => h1 q (by simp [hq])) fun q hq => h2 q (by simp [hq])))
    cases hr : p.2 with
    | none => exact c_zero
    | some x => exact h2 p (by simp) x hr
theorem mem_entVals {ps : List (List (List PV) × Option (List PV))} {v : List PV} (h : v ∈ entVals ps) : ∃ p ∈ ps, v ∈ p.1 ∨ p.2 = some v := by
  induction ps with
  | nil => simp [entVals] at h
  | cons p ps ih =>
    simp only [entVals, List.mem_append] at h
    rcases h with (h | h) | h
    · exact ⟨p, by simp, .inl h⟩
    · cases hr : p.2 with
      | none => simp [hr] at h
      | some x => simp [hr] at h; exact ⟨p, by simp, .inr (by rw [hr, h])⟩
    · obtain ⟨q, hq, hh⟩ := ih h
      exact ⟨q, by simp [hq], hh⟩
theorem subP_ordPage (σ : Nat → PV) (es : List (List PV)) : subP σ (ordPage es) = ordPage (subE σ es) := by
  rcases es with _ | ⟨a, _ | ⟨b, _ | ⟨c, r⟩⟩⟩
  · rfl
  · rfl
  · simp only [ordPage, subP, subE_cons, subE_nil, subL_cons, subL_nil, sub_agg, sub_v]
  · simp only [ordPage, subP, subE_cons]
theorem page_ord {es : List (List PV)} (h : ∀ a b, es = [a, b] → Known Tryz.prog 104 (pair a b) (j 0)) : PageOk Tryz.prog 104 (ordPage es) := by
  rcases es with _ | ⟨a, _ | ⟨b, _ | ⟨c, r⟩⟩⟩
  · trivial
  · trivial
  · exact ⟨h a b rfl, trivial⟩
  · trivial
theorem flags_mem {α : Type} {ps : List α} (g : α → Bool) (h : ps.length ≤ 2) : ps.map g ∈ flags := by
  rcases ps with _ | ⟨a, _ | ⟨b, _ | ⟨c, r⟩⟩⟩
  · simp only [List.map_nil]; decide
  · simp only [List.map_cons, List.map_nil]; cases g a <;> decide
  · simp only [List.map_cons, List.map_nil]; cases g a <;> cases g b <;> decide
  · simp at h
/-- values without any pointers at all -/
theorem fit0 : Fit (pick []) := fit_pick (by simp)
theorem zero_eq : Known Tryz.prog 103 (pair zero zero) (i 0) := by
  have hv : Known Tryz.prog 151 [nl, nl] (i 0) := by
    have h := t_okVals_0
    unfold okVals at h
    have h2 := List.all_eq_true.1 h [] (by decide)
    exact chkC_use fit0 e151ok h2 ⟨trivial, trivial⟩
  exact chkC_use fit0 e103ok t_okZero ⟨⟨hv, trivial⟩, trivial⟩
theorem valid {k : List PV} (h : GV k) : Known Tryz.prog 40 [.agg k] (bo true) := by
  have leaf : ∀ {l s x}, l ∈ labels → s ∈ vLeaf l → Cell x → Known Tryz.prog 40 (subL (pick [x]) [.agg s]) (sub (pick [x]) (bo true)) := by
    intro l s x hl hs hx
    have h := t_okLeaf
    unfold okLeaf at h
    have h2 := List.all_eq_true.1 (List.all_eq_true.1 h l hl) s hs
    exact chk_use (fit_pick (by intro c hc; simp at hc; subst hc; exact hx)) e40ok h2 trivial
  induction h with
  | int hn hl =>
    rename_i n l
    have := leaf (x := n) (s := vInt (.unk 0) l) hl (by simp [vLeaf]) (c_nums _ hn)
    simpa only [vInt, subL_cons, subL_nil, sub_agg, sub_unk, sub_v, sub_cell (c_labels l hl), pick_at (l := [n]) (n := 0) (c := n) rfl] using this
  | str hn hl =>
    rename_i n l
    have := leaf (x := nl) (s := vStr n l) hl (by unfold vLeaf; simp only [List.mem_cons, List.mem_append, List.mem_map]; exact .inl (.inl (.inr (.inr ⟨n, hn, rfl⟩)))) cN
    simpa only [vStr, subL_cons, subL_nil, sub_agg, sub_unk, sub_v, sub_cell (c_labels l hl), sub_cell (c_words n hn)] using this
  | atom hn hl =>
    rename_i n l
    have := leaf (x := nl) (s := vAtom n l) hl (by unfold vLeaf; simp only [List.mem_cons, List.mem_append, List.mem_map]; exact .inl (.inr ⟨n, hn, rfl⟩)) cN
    simpa only [vAtom, subL_cons, subL_nil, sub_agg, sub_unk, sub_v, sub_cell (c_labels l hl), sub_cell (c_atoms n hn)] using this
  | pid hn hl =>
    rename_i n l
    have := leaf (x := nl) (s := vPid n l) hl (by unfold vLeaf; simp only [List.mem_cons, List.mem_append, List.mem_map]; exact .inr ⟨n, hn, rfl⟩) cN
    simpa only [vPid, subL_cons, subL_nil, sub_agg, sub_unk, sub_v, sub_cell (c_labels l hl), sub_cell (c_pids n hn)] using this
  | nil hl =>
    rename_i l
    have := leaf (x := nl) (s := vNil l) hl (by simp [vLeaf]) cN
    simpa only [vNil, subL_cons, subL_nil, sub_agg, sub_unk, sub_v, sub_cell (c_labels l hl)] using this
  | tup hn hk hl ih =>
    rename_i ks l
    have h := t_okTup
    unfold okTup at h
    have h2 := List.all_eq_true.1 (List.all_eq_true.1 h l hl) ks.length (by simp; omega)
    have hs : Seven ks := fun k hk' => (hk k hk').seven
    have hu := subE_Us [] hs
    have := chk_use (fit_pick (cells_app (cells_flat fun k hk' => (hk k hk').cells) (by simp))) e40ok h2 (B := [(40, allTrue (Us 0 ks.length))]) (σ := pick (ks.flatten ++ []))
      (by simp only [subB, subP_allTrue, hu]; exact ⟨page_allTrue ih, trivial⟩)
    simpa only [vTup, subL_cons, subL_nil, sub_agg, sub_v, sub_slOf, hu, sub_cell (c_labels l hl)] using this
  | cons hh ht hk hl ih1 ih2 =>
    rename_i hd t l
    have h := t_okCons
    unfold okCons at h
    obtain ⟨r, hr⟩ := hk
    have key : ∀ m, m ∈ [5, 7] → t = i m :: r → Known Tryz.prog 40 [.agg (vCons hd t l)] (bo true) := by
      intro m hm e
      have h2 := List.all_eq_true.1 (List.all_eq_true.1 h l hl) m hm
      have hr6 : r.length = 6 := by have := ht.seven; rw [e] at this; simpa using this
      have e1 : subL (pick (hd ++ t)) (U 0) = hd := by
        have := subL_urP (pre := []) (k := hd) (post := t) (a := 0) rfl hh.seven
        simpa [U] using this
      have e2 : subL (pick (hd ++ t)) (i m :: ur 8 6) = t := by
        rw [subL_cons, sub_v, e]
        have := subL_urP (pre := hd ++ [i m]) (k := r) (post := []) (a := 8) (by simp [hh.seven]) hr6
        simp only [List.append_nil, List.append_assoc, List.cons_append, List.nil_append] at this
        rw [this]
      have := chk_use (fit_pick (cells_app hh.cells ht.cells)) e40ok h2 (σ := pick (hd ++ t))
        (by simp only [subB, subP_allTrue, subE_cons, subE_nil, e1, e2]; exact ⟨page_allTrue (by intro k hk; simp at hk; rcases hk with rfl | rfl <;> assumption), trivial⟩)
      simpa only [vCons, subL_cons (pick (hd ++ t)) (PV.agg _), subL_nil, sub_agg, sub_v, sub_slOf, subE_cons, subE_nil, e1, e2, subL_cons (pick (hd ++ t)) (i 7), subL_cons (pick (hd ++ t)) (i 0), subL_cons (pick (hd ++ t)) (sb []), subL_cons (pick (hd ++ t)) (slOf _), subL_cons (pick (hd ++ t)) nl, subL_cons (pick (hd ++ t)) l, sub_cell (c_labels l hl)] using this
    rcases hr with e | e
    · exact key 5 (by simp) e
    · exact key 7 (by simp) e
  | map hk hlen hkids hl ih =>
    rename_i keys ks l
    have h2 : chk e40 [(40, allTrue (Us 0 ks.length))] [.agg (vMap keys (Us 0 ks.length) l)] (bo true) = true := by
      have g : okMap l = true := by
        simp only [labels, List.mem_cons, List.not_mem_nil, or_false] at hl
        rcases hl with rfl | rfl | rfl | rfl | rfl | rfl | rfl
        · exact t_okMap0
        · exact t_okMap1
        · exact t_okMap2
        · exact t_okMap3
        · exact t_okMap4
        · exact t_okMap5
        · exact t_okMap6
      unfold okMap at g
      rw [hlen]
      exact List.all_eq_true.1 g keys hk
    have hs : Seven ks := fun k hk' => (hkids k hk').seven
    have hu := subE_Us [] hs
    have := chk_use (fit_pick (cells_app (cells_flat fun k hk' => (hkids k hk').cells) (by simp))) e40ok h2 (σ := pick (ks.flatten ++ []))
      (by simp only [subB, subP_allTrue, hu]; exact ⟨page_allTrue ih, trivial⟩)
    simpa only [vMap, subL_cons, subL_nil, sub_agg, sub_v, sub_slOf, hu, sub_cell (c_labels l hl), subE_cells (c_keyLists _ hk)] using this
  | fn hn hp hlen ha hr hord hl ih1 ih2 =>
    rename_i n ps l
    have g : okFun n = true := by
      match n, hn with
      | 0, _ => exact t_okFun0
      | 1, _ => exact t_okFun1
      | 2, _ => exact t_okFun2
    unfold okFun at g
    have h2 := List.all_eq_true.1 (List.all_eq_true.1 g l hl) (ps.map fun p => isN p.2) (flags_mem _ hp)
    obtain ⟨e1, e2⟩ := sub_entsP (n := n) (ps := ps) (pre := []) (post := []) (a := 0) rfl hlen (fun p hp' k hk => (ha p hp' k hk).seven) (fun p hp' x hx => (hr p hp' x hx).seven)
    simp only [List.nil_append, List.append_nil] at e1 e2
    have hcells := entFill_cells (ps := ps) (fun p hp' x hx => (ha p hp' x hx).cells) (fun p hp' x hx => (hr p hp' x hx).cells)
    have := chk_use (fit_pick hcells) e40ok h2 (σ := pick (entFill ps))
      (by
        simp only [subB, subP_allTrue, e2, subP_ordPage, e1, subP, subL_cons, subL_nil, sub_agg, sub_v, sub_zero]
        refine ⟨page_allTrue ?_, ⟨zero_eq, trivial⟩, page_ord hord, trivial⟩
        intro k hk
        obtain ⟨p, hp', hh | hh⟩ := mem_entVals hk
        · exact ih1 p hp' k hh
        · exact ih2 p hp' k hh)
    simpa only [vFun, subL_cons, subL_nil, sub_agg, sub_v, sub_slOf, e1, sub_cell (c_labels l hl)] using this
end
end Go.Ev.D
