/- Which values are members of which types. -/
import Derived.Test.YtpahaogeenalpaaGreatEvJa
import Derived.Test.YtpahaogeenalpaaGreatEvFc
import Derived.Test.YtpahaogeenalpaaGreatEvFd
set_option linter.all false
namespace Go.Ev.D
open Go.Proofs
theorem mem_cube {α : Type} {base : List α} : ∀ {l : List α}, (∀ x ∈ l, x ∈ base) → l ∈ cube base l.length
  | [], _ => by simp [cube]
  | x :: l, h => by
    have ih := mem_cube (base := base) (l := l) fun y hy => h y (by simp [hy])
    show x :: l ∈ (cube base l.length).flatMap fun r => base.map fun y => y :: r
    exact List.mem_flatMap.2 ⟨l, ih, List.mem_map.2 ⟨x, h x (by simp), rfl⟩⟩
theorem hcube {α : Type} {ks : List α} {bs : List Bool} (hb : bs.length = ks.length) : (bs.map fun b => !b) ∈ cube [true, false] ks.length := by
  have e : (bs.map fun b => !b).length = ks.length := by simp [hb]
  rw [← e]
  exact mem_cube fun b _ => by cases b <;> decide
theorem mem_B2 (b : Bool) : b ∈ B2 := by cases b <;> decide
theorem choose_bs {A : List PV → Bool → Prop} : ∀ {ks : List (List PV)}, (∀ k ∈ ks, ∃ b, A k b) → ∃ bs : List Bool, bs.length = ks.length ∧ ∀ x ∈ ks.zip bs, A x.1 x.2
  | [], _ => ⟨[], rfl, by simp⟩
  | k :: ks, h => by
    obtain ⟨b, hb⟩ := h k (by simp)
    obtain ⟨bs, h1, h2⟩ := choose_bs (ks := ks) fun x hx => h x (by simp [hx])
    exact ⟨b :: bs, by simp [h1], by
      intro x hx
      simp only [List.zip_cons_cons, List.mem_cons] at hx
      rcases hx with rfl | hx
      · exact hb
      · exact h2 x hx⟩
section
variable [E : Env]
theorem subP_pg (σ : Nat → PV) (g : List PV → List PV) (hg : ∀ u, subL σ (g u) = g (subL σ u)) (c : Bool → PV) (hc : ∀ b, sub σ (c b) = c b) : ∀ (us : List (List PV)) (bs : List Bool), subP σ (pg us g (bs.map c)) = pg (subE σ us) g (bs.map c)
  | [], _ => rfl
  | _ :: _, [] => rfl
  | u :: us, b :: bs => by
    have := subP_pg σ g hg c hc us bs
    unfold pg at this ⊢
    simp only [List.map_cons, List.zip_cons_cons, subP, subE_cons, hg, hc, this]
theorem page_pg {f : Nat} {g : List PV → List PV} {c : Bool → PV} : ∀ {ks : List (List PV)} {bs : List Bool}, (∀ x ∈ ks.zip bs, Known Tryz.prog f (g x.1) (c x.2)) → PageOk Tryz.prog f (pg ks g (bs.map c))
  | [], _, _ => trivial
  | _ :: _, [], _ => trivial
  | k :: ks, b :: bs, h => ⟨h (k, b) (by simp), page_pg (ks := ks) (bs := bs) fun x hx => h x (by simp [hx])⟩
theorem clean_tData : clean tData = true := by decide
theorem sub_at (σ : Nat → PV) (u : List PV) (m : Nat) : subL σ (atData u m) = atData (subL σ u) m := by
  unfold atData
  simp only [subL_cons, subL_nil, sub_agg, sub_v, sub_clean σ tData clean_tData]
theorem subP_map (σ : Nat → PV) (s : List PV) (c : Nat → Bool) : ∀ (ms : List Nat), subP σ (ms.map fun m => (atData s (m + 1), bo (c m))) = ms.map fun m => (atData (subL σ s) (m + 1), bo (c m))
  | [] => rfl
  | m :: ms => by simp only [List.map_cons, subP, sub_at, sub_v, subP_map σ s c ms]
theorem page_map {s : List PV} {c : Nat → Bool} : ∀ {ms : List Nat}, (∀ m ∈ ms, Known Tryz.prog 43 (atData s (m + 1)) (bo (c m))) → PageOk Tryz.prog 43 (ms.map fun m => (atData s (m + 1), bo (c m)))
  | [], _ => trivial
  | m :: ms, h => ⟨h m (by simp), page_map fun x hx => h x (by simp [hx])⟩
/-- a member of Data, by its parts -/
theorem mem_use {σ : Nat → PV} (hσ : Fit σ) {s : List PV} {n : Nat} {bs : List Bool} {idx : Nat} (h : okMem s n bs idx = true) (hk : PageOk Tryz.prog 43 (pg (subE σ (Us 0 n)) (fun u => atData u 0) (bs.map bo))) :
    Known Tryz.prog 43 (atData (subL σ s) 0) (bo (!Nat.beq idx 0 && allB bs)) := by
  unfold okMem at h
  rw [Bool.and_eq_true] at h
  have h1 := List.all_eq_true.1 h.1
  have := chk_use hσ e43ok h.2 (by
    simp only [subB, subP_map]
    refine ⟨page_map fun m hm => ?_, trivial⟩
    have := chk_use hσ e43ok (h1 m hm) (by
      simp only [subB, kidPg, subP_pg σ (fun u => atData u 0) (fun u => sub_at σ u 0) bo (fun b => sub_v σ _)]
      exact ⟨hk, trivial⟩)
    simpa only [sub_at, sub_v] using this)
  simpa only [sub_at, sub_v] using this
/-- the rest of a shape's unknown cells -/
theorem pick_rest {pre rest : List PV} {a : Nat} (h : pre.length = a) (m : Nat) : pick (pre ++ rest) (a + m) = pick rest m := by
  unfold pick
  rw [List.getElem?_append_right (by omega), h, show a + m - a = m by omega]
theorem sub_hs {ks : List (List PV)} (h7 : Seven ks) (k : Nat) (a b c d e : PV) : subL (pick (ks.flatten ++ [a, b, c, d, e])) (hs k ks.length) = [i k, a, b, slOf ks, c, d, e] := by
  have hl := seven_flat h7
  unfold D.hs
  simp only [subL_cons, subL_nil, sub_v, sub_unk, sub_slOf, subE_Us _ h7, pick_rest hl, pick_rest hl 0]
  have := pick_rest (rest := [a, b, c, d, e]) hl 0
  rw [Nat.add_zero] at this
  rw [this]
  rfl
theorem sub_kind {r : List PV} (hr : r.length = 6) (k : Nat) : subL (pick r) (i k :: ur 0 6) = i k :: r := by
  have := subL_urP (pre := []) (k := r) (post := []) (a := 0) rfl hr
  simp only [List.nil_append, List.append_nil] at this
  rw [subL_cons, sub_v, this]
theorem all_not_any : ∀ (bs : List Bool), allB (bs.map fun b => !b) = !anyB bs
  | [] => rfl
  | b :: bs => by
    have := all_not_any bs
    unfold allB anyB at this ⊢
    simp only [List.map_cons, List.all_cons, List.any_cons, this, _root_.id, Bool.not_or]
theorem zip_map_not {A : List PV → Bool → Prop} : ∀ {ks : List (List PV)} {bs : List Bool}, (∀ x ∈ ks.zip bs, A x.1 (!x.2)) → ∀ x ∈ ks.zip (bs.map fun b => !b), A x.1 x.2
  | [], _, _, x, hx => by simp at hx
  | _ :: _, [], _, x, hx => by simp at hx
  | k :: ks, b :: bs, h, x, hx => by
    simp only [List.map_cons, List.zip_cons_cons, List.mem_cons] at hx
    rcases hx with rfl | hx
    · exact h (k, b) (by simp)
    · exact zip_map_not (A := A) (ks := ks) (bs := bs) (fun y hy => h y (by simp [hy])) x hx
/-- does a function occur in it? is it a member of Data? -/
def HD (k : List PV) : Prop := ∃ b, Known Tryz.prog 7 [.agg k] (bo b) ∧ Known Tryz.prog 43 (atData k 0) (bo (!b))
theorem six {k : Nat} {r : List PV} (h : GV (i k :: r)) : r.length = 6 := by have := h.seven; simpa using this
theorem cells_tl {c : PV} {r : List PV} (h : ∀ x ∈ c :: r, Cell x) : ∀ x ∈ r, Cell x := fun x hx => h x (by simp [hx])
/-- kinds without parts: nothing occurs -/
theorem holds_parts {ks : List (List PV)} (hs : Seven ks) (hc : ∀ k ∈ ks, ∀ c ∈ k, Cell c) (hn : ks.length ≤ 3) {bs : List Bool} (hb : bs.length = ks.length) {kd : Nat} (hk : kd ∈ [1, 2, 3, 4, 5, 6, 7, 8]) {a b c d e : PV} (h5 : ∀ x ∈ [a, b, c, d, e], Cell x)
    (h : ∀ x ∈ ks.zip bs, Known Tryz.prog 7 [.agg x.1] (bo x.2)) : Known Tryz.prog 7 [.agg [i kd, a, b, slOf ks, c, d, e]] (bo (anyB bs)) := by
  have h0 : okHolds ks.length = true := by
    match hl : ks.length, hn with
    | 0, _ => exact t_okHolds_0
    | 1, _ => exact t_okHolds_1
    | 2, _ => exact t_okHolds_2
    | 3, _ => exact t_okHolds_3
  unfold okHolds at h0
  have h1 := List.all_eq_true.1 (List.all_eq_true.1 h0 kd hk) bs (by rw [← hb]; exact mem_cube fun b _ => mem_B2 b)
  have e1 := subP_pg (pick (ks.flatten ++ [a, b, c, d, e])) (fun u => [PV.agg u]) (fun u => by simp only [subL_cons, subL_nil, sub_agg]) bo (fun b => sub_v _ _) (Us 0 ks.length) bs
  rw [subE_Us _ hs] at e1
  have := chk_use (fit_pick (cells_app (cells_flat hc) h5)) e7ok h1 (by
    simp only [subB, kidPg, e1]
    exact ⟨page_pg (g := fun u => [PV.agg u]) h, trivial⟩)
  have e2 := sub_hs hs kd a b c d e
  rw [subL_cons, sub_agg, e2, subL_nil, sub_v] at this
  exact this
theorem holds_leaf {kd : Nat} (hk : kd ∈ [1, 2, 3, 4, 5, 6, 7, 8]) {a b c d e : PV} (h5 : ∀ x ∈ [a, b, c, d, e], Cell x) : Known Tryz.prog 7 [.agg [i kd, a, b, nl, c, d, e]] (bo false) :=
  holds_parts (ks := []) (bs := []) (by intro k hk; simp at hk) (by simp) (by simp) rfl hk h5 (by simp)
theorem five {a b c d e : PV} (h0 : Cell a) (h1 : Cell b) (h2 : Cell c) (h3 : Cell d) (h4 : Cell e) : ∀ x ∈ [a, b, c, d, e], Cell x := by
  intro x hx
  simp only [List.mem_cons, List.not_mem_nil, or_false] at hx
  rcases hx with rfl | rfl | rfl | rfl | rfl <;> assumption
theorem mem_leaf {kd : Nat} (hk : kd ∈ [2, 3, 4, 5]) {r : List PV} (hr : r.length = 6) (hc : ∀ x ∈ r, Cell x) : Known Tryz.prog 43 (atData (i kd :: r) 0) (bo true) := by
  have h := t_okMemLeaf
  unfold okMemLeaf at h
  simp only [Bool.and_eq_true] at h
  have h1 := List.all_eq_true.1 h.1.2 kd hk
  have := mem_use (fit_pick hc) h1 trivial
  rw [sub_kind hr] at this
  have e : (!Nat.beq kd 0 && allB []) = true := by
    simp only [List.mem_cons, List.not_mem_nil, or_false] at hk
    rcases hk with rfl | rfl | rfl | rfl <;> rfl
  rwa [e] at this
theorem kds_of {keys : List (List PV)} (h : keys ∈ keyLists) : ∃ (kds : List Nat) (ts : List PV), kds.length = keys.length ∧ ts.length = keys.length ∧ (∀ x ∈ kds, x ∈ [0, 1]) ∧ (∀ t ∈ ts, Cell t) ∧ keys = ((kds.zip ts).map fun x => [i x.1, x.2]) ∧ keys.length ≤ 2 := by
  have : (keyLists.all fun keys => decide (keys.length ≤ 2) && keys.all fun k => match k with
    | [.v (.int .i64 (.ofNat 0)), t] => cellB t
    | [.v (.int .i64 (.ofNat 1)), t] => cellB t
    | _ => false) = true := by decide
  have h1 := List.all_eq_true.1 this keys h
  rw [Bool.and_eq_true] at h1
  have hl := of_decide_eq_true h1.1
  have h2 := List.all_eq_true.1 h1.2
  have : ∀ (ks : List (List PV)), (∀ k ∈ ks, (match k with
    | [.v (.int .i64 (.ofNat 0)), t] => cellB t
    | [.v (.int .i64 (.ofNat 1)), t] => cellB t
    | _ => false) = true) → ∃ (kds : List Nat) (ts : List PV), kds.length = ks.length ∧ ts.length = ks.length ∧ (∀ x ∈ kds, x ∈ [0, 1]) ∧ (∀ t ∈ ts, Cell t) ∧ ks = (kds.zip ts).map fun x => [i x.1, x.2] := by
    intro ks
    induction ks with
    | nil => exact fun _ => ⟨[], [], rfl, rfl, by simp, by simp, rfl⟩
    | cons k ks ih =>
      intro h
      obtain ⟨kds, ts, g1, g2, g3, g4, g5⟩ := ih fun x hx => h x (by simp [hx])
      have hk := h k (by simp)
      split at hk
      · rename_i t
        refine ⟨0 :: kds, t :: ts, by simp [g1], by simp [g2], ?_, ?_, by simp [g5.symm]⟩
        · intro x hx; rcases List.mem_cons.1 hx with rfl | hx
          · simp
          · exact g3 x hx
        · intro x hx; rcases List.mem_cons.1 hx with rfl | hx
          · exact cell_of hk
          · exact g4 x hx
      · rename_i t
        refine ⟨1 :: kds, t :: ts, by simp [g1], by simp [g2], ?_, ?_, by simp [g5.symm]⟩
        · intro x hx; rcases List.mem_cons.1 hx with rfl | hx
          · simp
          · exact g3 x hx
        · intro x hx; rcases List.mem_cons.1 hx with rfl | hx
          · exact cell_of hk
          · exact g4 x hx
      · cases hk
  obtain ⟨kds, ts, g1, g2, g3, g4, g5⟩ := this keys h2
  exact ⟨kds, ts, g1, g2, g3, g4, g5, hl⟩
theorem sub_kz : ∀ {kds : List Nat} {ts : List PV} {pre post : List PV} {a : Nat}, pre.length = a → ts.length = kds.length → subE (pick (pre ++ (ts ++ post))) (mapS.kz a kds) = (kds.zip ts).map fun x => [i x.1, x.2]
  | [], _, _, _, _, _, _ => by simp [mapS.kz, subE_nil]
  | k :: kds, [], _, _, _, _, h => by simp at h
  | k :: kds, t :: ts, pre, post, a, hp, h => by
    have ih := sub_kz (kds := kds) (ts := ts) (pre := pre ++ [t]) (post := post) (a := a + 1) (by simp [hp]) (by simpa using h)
    simp only [List.append_assoc, List.cons_append, List.nil_append] at ih
    simp only [mapS.kz, subE_cons, subL_cons, subL_nil, sub_v, sub_unk, List.zip_cons_cons, List.map_cons, List.cons_append, ih]
    have e := pick_rest (pre := pre) (rest := t :: (ts ++ post)) hp 0
    rw [Nat.add_zero] at e
    rw [e]
    rfl
theorem holdsData {k : List PV} (h : GV k) : HD k := by
  induction h with
  | int hn hl =>
    rename_i n l
    refine ⟨false, holds_leaf (by decide) (five (c_nums _ hn) (cS _) cN cN (c_labels _ hl)), ?_⟩
    have h := t_okMemLeaf
    unfold okMemLeaf at h
    simp only [Bool.and_eq_true] at h
    have h1 := List.all_eq_true.1 h.1.1 n hn
    have := mem_use (fit_pick (l := [l]) (by intro c hc; simp at hc; subst hc; exact c_labels _ hl)) h1 trivial
    simp only [vInt, subL_cons, subL_nil, sub_v, sub_unk, sub_cell (c_nums n hn), pick_at (l := [l]) (n := 0) (c := l) rfl] at this
    exact this
  | str hn hl => exact ⟨false, holds_leaf (by decide) (five (cI _) (c_words _ hn) cN cN (c_labels _ hl)), mem_leaf (by decide) rfl (cells_tl (GV.str hn hl).cells)⟩
  | atom hn hl => exact ⟨false, holds_leaf (by decide) (five (cI _) (c_atoms _ hn) cN cN (c_labels _ hl)), mem_leaf (by decide) rfl (cells_tl (GV.atom hn hl).cells)⟩
  | pid hn hl => exact ⟨false, holds_leaf (by decide) (five (c_pids _ hn) (cS _) cN cN (c_labels _ hl)), mem_leaf (by decide) rfl (cells_tl (GV.pid hn hl).cells)⟩
  | nil hl => exact ⟨false, holds_leaf (by decide) (five (cI _) (cS _) cN cN (c_labels _ hl)), mem_leaf (by decide) rfl (cells_tl (GV.nil hl).cells)⟩
  | tup hn hk hl ih =>
    rename_i ks l
    obtain ⟨bs, hb, hx⟩ := choose_bs (A := fun k b => Known Tryz.prog 7 [.agg k] (bo b) ∧ Known Tryz.prog 43 (atData k 0) (bo (!b))) ih
    have hs : Seven ks := fun k hk' => (hk k hk').seven
    have hc : ∀ k ∈ ks, ∀ c ∈ k, Cell c := fun k hk' => (hk k hk').cells
    refine ⟨anyB bs, holds_parts hs hc hn hb (by decide) (five (cI _) (cS _) cN cN (c_labels _ hl)) fun x hx' => (hx x hx').1, ?_⟩
    have h0 : okMemTup ks.length = true := by
      match hl : ks.length, hn with
      | 0, _ => exact t_okMemTup_0
      | 1, _ => exact t_okMemTup_1
      | 2, _ => exact t_okMemTup_2
      | 3, _ => exact t_okMemTup_3
    unfold okMemTup at h0
    have h1 := List.all_eq_true.1 h0 (bs.map fun b => !b) (hcube hb)
    have := mem_use (fit_pick (cells_app (cells_flat hc) (five (cI 0) (cS []) cN cN (c_labels _ hl)))) h1 (by
      rw [subE_Us _ hs]
      exact page_pg (g := fun u => atData u 0) (zip_map_not (A := fun k b => Known Tryz.prog 43 (atData k 0) (bo b)) fun x hx' => (hx x hx').2))
    rw [sub_hs hs, all_not_any] at this
    have e : (!Nat.beq (8 + ks.length) 0 && !anyB bs) = !anyB bs := by
      rw [show Nat.beq (8 + ks.length) 0 = false from by rw [Nat.add_comm]; rfl]; rfl
    rwa [e] at this
  | cons hh ht hk hl ih1 ih2 =>
    rename_i hd t l
    have hg : ∀ k ∈ [hd, t], GV k := by intro k hk; simp at hk; rcases hk with rfl | rfl <;> assumption
    have ih : ∀ k ∈ [hd, t], HD k := by intro k hk; simp at hk; rcases hk with rfl | rfl <;> assumption
    obtain ⟨bs, hb, hx⟩ := choose_bs (A := fun k b => Known Tryz.prog 7 [.agg k] (bo b) ∧ Known Tryz.prog 43 (atData k 0) (bo (!b))) ih
    have hs : Seven [hd, t] := fun k hk' => (hg k hk').seven
    have hc : ∀ k ∈ [hd, t], ∀ c ∈ k, Cell c := fun k hk' => (hg k hk').cells
    refine ⟨anyB bs, holds_parts hs hc (by simp) hb (by decide) (five (cI _) (cS _) cN cN (c_labels _ hl)) fun x hx' => (hx x hx').1, ?_⟩
    have h0 := t_okMemCons
    unfold okMemCons at h0
    have h1 := List.all_eq_true.1 h0 (bs.map fun b => !b) (by
      have hb' : bs.length = 2 := hb
      have e : (bs.map fun b => !b).length = 2 := by simp [hb']
      rw [← e]; exact mem_cube fun b _ => mem_B2 b)
    have := mem_use (fit_pick (cells_app (cells_flat hc) (five (cI 0) (cS []) cN cN (c_labels _ hl)))) h1 (by
      rw [show (2 : Nat) = [hd, t].length from rfl, subE_Us _ hs]
      exact page_pg (g := fun u => atData u 0) (zip_map_not (A := fun k b => Known Tryz.prog 43 (atData k 0) (bo b)) fun x hx' => (hx x hx').2))
    rw [show (2 : Nat) = [hd, t].length from rfl, sub_hs hs, all_not_any] at this
    exact this
  | map hk hlen hkids hl ih =>
    rename_i keys ks l
    obtain ⟨bs, hb, hx⟩ := choose_bs (A := fun k b => Known Tryz.prog 7 [.agg k] (bo b) ∧ Known Tryz.prog 43 (atData k 0) (bo (!b))) ih
    have hs : Seven ks := fun k hk' => (hkids k hk').seven
    have hc : ∀ k ∈ ks, ∀ c ∈ k, Cell c := fun k hk' => (hkids k hk').cells
    obtain ⟨kds, ts, g1, g2, g3, g4, g5, g6⟩ := kds_of hk
    refine ⟨anyB bs, holds_parts hs hc (by omega) hb (by decide) (five (cI _) (cS _) (cell_slOf (c_keyLists _ hk)) cN (c_labels _ hl)) fun x hx' => (hx x hx').1, ?_⟩
    have h0 : okMemMap kds.length = true := by
      rw [g1]
      match hl : keys.length, g6 with
      | 0, _ => exact t_okMemMap_0
      | 1, _ => exact t_okMemMap_1
      | 2, _ => exact t_okMemMap_2
    unfold okMemMap at h0
    have h1 := List.all_eq_true.1 (List.all_eq_true.1 h0 kds (mem_cube g3)) (bs.map fun b => !b) (by rw [show kds.length = (bs.map fun b => !b).length by simp [hb, hlen, g1]]; exact mem_cube fun b _ => mem_B2 b)
    have hn : kds.length = ks.length := by omega
    have hcells : ∀ c ∈ ks.flatten ++ ([i 0, sb []] ++ (ts ++ [nl, l])), Cell c := by
      refine cells_app (cells_flat hc) (cells_app ?_ (cells_app g4 ?_))
      · intro c hc; simp at hc; rcases hc with rfl | rfl
        · exact cI _
        · exact cS _
      · intro c hc; simp at hc; rcases hc with rfl | rfl
        · exact cN
        · exact c_labels _ hl
    have hfl := seven_flat hs
    have hU : subE (pick (ks.flatten ++ ([i 0, sb []] ++ (ts ++ [nl, l])))) (Us 0 kds.length) = ks := by rw [hn]; exact subE_Us _ hs
    have := mem_use (fit_pick hcells) h1 (by
      rw [hU]
      exact page_pg (g := fun u => atData u 0) (zip_map_not (A := fun k b => Known Tryz.prog 43 (atData k 0) (bo b)) fun x hx' => (hx x hx').2))
    have hK : subE (pick (ks.flatten ++ ([i 0, sb []] ++ (ts ++ [nl, l])))) (mapS.kz (7 * kds.length + 2) kds) = keys := by
      rw [g5, ← List.append_assoc]
      exact sub_kz (by simp [hfl, hn]) (by omega)
    have hshape : subL (pick (ks.flatten ++ ([i 0, sb []] ++ (ts ++ [nl, l])))) (mapS kds) = vMap keys ks l := by
      unfold mapS vMap
      have p0 := pick_rest (pre := ks.flatten) (rest := [i 0, sb []] ++ (ts ++ [nl, l])) (a := 7 * kds.length) (by rw [hfl, hn]) 0
      have p1 := pick_rest (pre := ks.flatten) (rest := [i 0, sb []] ++ (ts ++ [nl, l])) (a := 7 * kds.length) (by rw [hfl, hn]) 1
      have p2 := pick_rest (pre := ks.flatten) (rest := [i 0, sb []] ++ (ts ++ [nl, l])) (a := 7 * kds.length) (by rw [hfl, hn]) (2 + kds.length)
      have p3 := pick_rest (pre := ks.flatten) (rest := [i 0, sb []] ++ (ts ++ [nl, l])) (a := 7 * kds.length) (by rw [hfl, hn]) (3 + kds.length)
      have q2 : pick ([i 0, sb []] ++ (ts ++ [nl, l])) (2 + kds.length) = nl := by
        have := pick_rest (pre := [i 0, sb []] ++ ts) (rest := [nl, l]) (a := 2 + kds.length) (by simp; omega) 0
        rw [List.append_assoc, Nat.add_zero] at this
        rw [this]; rfl
      have q3 : pick ([i 0, sb []] ++ (ts ++ [nl, l])) (3 + kds.length) = l := by
        have := pick_rest (pre := [i 0, sb []] ++ ts) (rest := [nl, l]) (a := 2 + kds.length) (by simp; omega) 1
        rw [List.append_assoc, show 2 + kds.length + 1 = 3 + kds.length by omega] at this
        rw [this]; rfl
      rw [Nat.add_zero] at p0
      simp only [subL_cons, subL_nil, sub_v, sub_unk, sub_slOf, hU, hK, p0, p1, show 7 * kds.length + 2 + kds.length = 7 * kds.length + (2 + kds.length) by omega, show 7 * kds.length + 3 + kds.length = 7 * kds.length + (3 + kds.length) by omega, p2, p3, q2, q3]
      rfl
    rw [hshape, all_not_any] at this
    exact this
  | fn hn hp hlen ha hr hord hl ih1 ih2 =>
    rename_i n ps l
    have hgv := GV.fn hn hp hlen ha hr hord hl
    have hc := cells_tl hgv.cells
    refine ⟨true, ?_, ?_⟩
    · have := chk_use (fit_pick hc) e7ok t_okHoldsF trivial
      rw [subL_cons, sub_agg, sub_kind rfl, subL_nil, sub_v] at this
      exact this
    · have h := t_okMemLeaf
      unfold okMemLeaf at h
      simp only [Bool.and_eq_true] at h
      have := mem_use (fit_pick hc) h.2 trivial
      rw [sub_kind rfl] at this
      exact this
end
end Go.Ev.D
