/- What is read is a tree: soundness of the check. -/
import Derived.Test.YtmlnfoabpcccnaaGreatEvDf
set_option linter.all false
namespace Go.Ev.A
open Go.Proofs
theorem subL_map (σ : Nat → PV) : ∀ (l : List PV), subL σ l = l.map (Ev.sub σ)
  | [] => rfl
  | c :: r => by rw [subL, subL_map σ r, List.map_cons]
theorem subE_map (σ : Nat → PV) : ∀ (l : List (List PV)), subE σ l = l.map (subL σ)
  | [] => rfl
  | c :: r => by rw [subE, subE_map σ r, List.map_cons]
theorem formed_sl {es : List (List PV)} {ex : Bool} (h : ∀ e ∈ es, ∀ c ∈ e, formed c) : formed (.sl es ex) := by
  refine ⟨.inr ⟨_, _, rfl⟩, ?_⟩
  simp only [clean]
  induction es with
  | nil => rfl
  | cons e es ih =>
    have he : ∀ {l : List PV}, (∀ c ∈ l, formed c) → cleanL l = true := by
      intro l
      induction l with
      | nil => intro _; rfl
      | cons c l ih => intro h; simp only [cleanL, (h c (List.mem_cons_self ..)).2, Bool.true_and]; exact ih fun x hx => h x (List.mem_cons_of_mem _ hx)
    simp only [cleanE, he (h e (List.mem_cons_self ..)), Bool.true_and]
    exact ih fun x hx => h x (List.mem_cons_of_mem _ hx)
/-- what stands in a production's cells -/
structure SOk (σ : Nat → PV) : Prop where
  txt : ∃ t, σ 200 = Str t
  num : ∃ z, σ 201 = .v (.int .i64 z)
  at_ : ∀ k, 3000 ≤ k → k < 3200 → ∃ z, σ k = .v (.int .i64 z)
  atW : ∀ k, 3200 ≤ k → k < 3400 → k % 4 = 3 → ∃ z, σ k = .v (.int .i64 z)
theorem Rf.int1 (z : Int) : Rf 1 (.v (.int .i64 z)) := fun m hm => by
  obtain ⟨m, rfl⟩ : ∃ k, m = k + 1 := ⟨m - 1, by omega⟩
  show (decide (IntKind.i64 = IntKind.i64) && ieqb z z) = true
  have : ieqb z z = true := by cases z <;> exact Nat.beq_refl _
  rw [this]; rfl
theorem Rf.str1 (t : ByteArray) : Rf 1 (.v (.string t)) := fun m hm => by
  obtain ⟨m, rfl⟩ : ∃ k, m = k + 1 := ⟨m - 1, by omega⟩
  exact bytesEq_rfl t.data.toList
theorem Rf.nl1 : Rf 1 nl := fun m hm => by
  obtain ⟨m, rfl⟩ : ∃ k, m = k + 1 := ⟨m - 1, by omega⟩
  rfl
def Nice (N : Nat) (c : PV) : Prop := Rf N c ∧ formed c
theorem Nice.v {N : Nat} {x : Value} (h : Rf N (.v x)) : Nice N (.v x) := ⟨h, .inl ⟨_, rfl⟩, rfl⟩
theorem rf0_ok {σ : Nat → PV} (H : SOk σ) {c : PV} (h : rf0 c = true) : Nice 1 (Ev.sub σ c) := by
  unfold rf0 at h
  split at h
  · rw [Ev.sub]; exact .v (Rf.int1 _)
  · rw [Ev.sub]; exact .v (Rf.str1 _)
  · rw [Ev.sub]; exact .v Rf.nl1
  · rename_i k
    rw [Ev.sub]
    simp only [Bool.or_eq_true, Bool.and_eq_true] at h
    rcases h with h | h | ⟨h1, h | ⟨h2, h3⟩⟩
    · rw [Nat.eq_of_beq_eq_true h]; obtain ⟨t, e⟩ := H.txt; rw [e]; exact .v (Rf.str1 _)
    · rw [Nat.eq_of_beq_eq_true h]; obtain ⟨t, e⟩ := H.num; rw [e]; exact .v (Rf.int1 _)
    · obtain ⟨z, e⟩ := H.at_ k (Nat.le_of_ble_eq_true h1) (Nat.le_of_ble_eq_true h); rw [e]; exact .v (Rf.int1 _)
    · have h1 := Nat.le_of_ble_eq_true h1
      have h2 : k < 3400 := Nat.le_of_ble_eq_true h2
      have h3 := Nat.eq_of_beq_eq_true h3
      by_cases h4 : k < 3200
      · obtain ⟨z, e⟩ := H.at_ k h1 h4; rw [e]; exact .v (Rf.int1 _)
      · obtain ⟨z, e⟩ := H.atW k (by omega) h2 h3; rw [e]; exact .v (Rf.int1 _)
  · cases h
theorem listB_ok {σ : Nat → PV} {s n N : Nat} {p : PV → Bool} (hp : ∀ c, p c = true → Nice N (Ev.sub σ c)) {c : PV} (h : listB s n p c = true) : Nice (N + s + n + 3) (Ev.sub σ c) := by
  unfold listB at h
  split at h
  · rename_i es ex
    simp only [Bool.and_eq_true] at h
    have hn := Nat.le_of_ble_eq_true h.1
    have hall : ∀ e ∈ subE σ es, e.length ≤ s ∧ ∀ c ∈ e, Nice N c := by
      intro e he
      rw [subE_map] at he
      obtain ⟨x, hx, rfl⟩ := List.mem_map.1 he
      have := List.all_eq_true.1 h.2 x hx
      simp only [Bool.and_eq_true] at this
      refine ⟨by rw [subL_map, List.length_map]; exact Nat.le_of_ble_eq_true this.1, fun c hc => ?_⟩
      rw [subL_map] at hc
      obtain ⟨d, hd, rfl⟩ := List.mem_map.1 hc
      exact hp d (List.all_eq_true.1 this.2 d hd)
    rw [Ev.sub]
    refine ⟨(Rf.sl (N := N) (s := s) fun e he => ⟨(hall e he).1, fun c hc => ((hall e he).2 c hc).1⟩).mono ?_, formed_sl fun e he c hc => ((hall e he).2 c hc).2⟩
    rw [subE_map, List.length_map]; omega
  · cases h
theorem Nice.mono {N M : Nat} (h : N ≤ M) {c : PV} (g : Nice N c) : Nice M c := ⟨g.1.mono h, g.2⟩
theorem rf1_ok {σ : Nat → PV} (H : SOk σ) {c : PV} (h : rf1 c = true) : Nice 11 (Ev.sub σ c) := by
  unfold rf1 at h
  rw [Bool.or_eq_true] at h
  rcases h with h | h
  · exact (rf0_ok H h).mono (by omega)
  · exact (listB_ok (N := 1) (fun c hc => rf0_ok H hc) h).mono (by omega)
theorem rf2_ok {σ : Nat → PV} (H : SOk σ) {c : PV} (h : rf2 c = true) : Nice 20 (Ev.sub σ c) := by
  unfold rf2 at h
  simp only [Bool.or_eq_true] at h
  rcases h with h | h | h
  · exact (rf1_ok H h).mono (by omega)
  · exact (listB_ok (N := 1) (fun c hc => rf0_ok H hc) h).mono (by omega)
  · exact (listB_ok (N := 11) (fun c hc => rf1_ok H hc) h).mono (by omega)
/-- only what may stand there -/
def cutσ (σ : Nat → PV) (k : Nat) : PV := match rf0 (.unk k) with
  | true => σ k
  | false => I 0
theorem cut_fit {σ : Nat → PV} (H : SOk σ) : Fit (cutσ σ) := by
  have : ∀ k, formed (cutσ σ k) := by
    intro k
    unfold cutσ
    cases h : rf0 (.unk k) with
    | true =>
      have := (rf0_ok H h).2
      rw [Ev.sub] at this
      exact this
    | false => exact ⟨.inl ⟨_, rfl⟩, rfl⟩
  exact ⟨fun k => (this k).1, fun k => (this k).2⟩
theorem cut_eq0 {σ : Nat → PV} {c : PV} (h : rf0 c = true) : Ev.sub (cutσ σ) c = Ev.sub σ c := by
  cases c with
  | unk k => rw [Ev.sub, Ev.sub]; unfold cutσ; rw [h]
  | v x => rw [Ev.sub, Ev.sub]
  | _ => simp [rf0] at h
theorem cutL_eq {σ : Nat → PV} {s n : Nat} {p : PV → Bool} (hp : ∀ c, p c = true → Ev.sub (cutσ σ) c = Ev.sub σ c) {c : PV} (h : listB s n p c = true) : Ev.sub (cutσ σ) c = Ev.sub σ c := by
  unfold listB at h
  split at h
  · rename_i es ex
    simp only [Bool.and_eq_true] at h
    rw [Ev.sub, Ev.sub, subE_map, subE_map]
    congr 1
    refine List.map_congr_left fun e he => ?_
    have := List.all_eq_true.1 h.2 e he
    simp only [Bool.and_eq_true] at this
    rw [subL_map, subL_map]
    exact List.map_congr_left fun c hc => hp c (List.all_eq_true.1 this.2 c hc)
  · cases h
theorem cut_eq2 {σ : Nat → PV} {c : PV} (h : rf2 c = true) : Ev.sub (cutσ σ) c = Ev.sub σ c := by
  have h1 : ∀ c, rf1 c = true → Ev.sub (cutσ σ) c = Ev.sub σ c := fun c h => by
    unfold rf1 at h
    rw [Bool.or_eq_true] at h
    rcases h with h | h
    · exact cut_eq0 h
    · exact cutL_eq (fun c hc => cut_eq0 hc) h
  unfold rf2 at h
  simp only [Bool.or_eq_true] at h
  rcases h with h | h | h
  · exact h1 c h
  · exact cutL_eq (fun c hc => cut_eq0 hc) h
  · exact cutL_eq h1 h
theorem pat_str {σ : Nat → PV} {t : List UInt8} (ht : σ 200 = Str t) {p : PV} (h : patB p = true) : PatStr (Ev.sub σ p) t := by
  unfold patB at h
  split at h
  · rename_i es ex
    obtain ⟨e, he, h⟩ := List.any_eq_true.1 h
    obtain ⟨c, hc, h⟩ := List.any_eq_true.1 h
    refine ⟨subE σ es, ex, subL σ e, by rw [Ev.sub], by rw [subE_map]; exact List.mem_map.2 ⟨e, he, rfl⟩, ?_⟩
    split at h
    · rename_i k
      rw [Nat.eq_of_beq_eq_true h] at hc
      refine .inl ?_
      rw [subL_map]
      exact List.mem_map.2 ⟨_, hc, by rw [Ev.sub]; exact ht⟩
    · rename_i fs ex'
      obtain ⟨f, hf, h⟩ := List.any_eq_true.1 h
      obtain ⟨d, hd, h⟩ := List.any_eq_true.1 h
      split at h
      · rw [Nat.eq_of_beq_eq_true h] at hd
        refine .inr ⟨subE σ fs, ex', subL σ f, ?_, by rw [subE_map]; exact List.mem_map.2 ⟨f, hf, rfl⟩, ?_⟩
        · rw [subL_map]; exact List.mem_map.2 ⟨_, hc, by rw [Ev.sub]⟩
        · rw [subL_map]; exact List.mem_map.2 ⟨_, hd, by rw [Ev.sub]; exact ht⟩
      · cases h
    · cases h
  · cases h
section
variable [E : Env]
theorem known37 {c : List PV} (hl : c.length = 19) (hf : ∀ x ∈ c, formed x) {p : PV} {r : List PV} (hc : c = p :: r) : Known Tryz.prog 37 [.agg c] (.agg (wh p)) := by
  let σ : Nat → PV := fun n => c.getD n (I 0)
  have hσ : Fit σ := ⟨fun n => (formed_getD hf n).1, fun n => (formed_getD hf n).2⟩
  have := (Known.sub hσ (P := Tryz.prog) (f := 37) (ds := [.agg (un 0 19)]) (q := .agg (wh (.unk 0)))).1 (by
    letI := E.put σ hσ.form
    exact known_goes (T := tys) tOk mixed fnsOk orc0 e37ok t37)
  have e1 : subL σ (un 0 19) = c := un_sub 19 0 c hl (fun n _ => by show c.getD (0 + n) (I 0) = _; rw [Nat.zero_add])
  have e2 : σ 0 = p := by show c.getD 0 (I 0) = p; rw [hc]; rfl
  simp only [subL, Ev.sub, e1, wh, e2] at this
  exact this
theorem known36 {σ : Nat → PV} (H : SOk σ) {p : PV} (hr : rf2 p = true) (h : ok36 p = true) : ∃ vs, P36 (wh (Ev.sub σ p)) (Ev.sub σ p) vs := by
  have hσ := cut_fit H
  obtain ⟨t, ht⟩ := H.txt
  have := (Known.sub hσ (P := Tryz.prog) (f := 36) (ds := [.agg (wh p)]) (q := v36 p)).1 (by
    letI := E.put (cutσ σ) hσ.form
    exact known_goes (T := tys) tOk mixed fnsOk orc0 e36ok h)
  simp only [subL, Ev.sub, wh, cut_eq2 hr] at this
  unfold v36 at this
  cases hp : patB p with
  | true =>
    rw [hp] at this
    have e : Ev.sub (cutσ σ) (.sl [[.unk 200]] false) = lsP [t] := by
      simp only [Ev.sub, subE, subL]
      show PV.sl [[cutσ σ 200]] false = _
      rw [show cutσ σ 200 = Str t from ht]
      rfl
    simp only [e] at this
    exact ⟨[t], by simp, fun v hv => by
      rw [List.mem_singleton.1 hv]
      exact pat_str ht hp, this⟩
  | false =>
    rw [hp] at this
    simp only [Ev.sub] at this
    exact ⟨[], by simp, (fun v hv => by cases hv), this⟩
theorem unSeq_eq : ∀ {l : List PV} {a : Nat}, unSeq a l = true → l = un a l.length
  | [], _, _ => rfl
  | c :: r, a, h => by
    cases c with
    | unk k =>
      simp only [unSeq, Bool.and_eq_true] at h
      rw [Nat.eq_of_beq_eq_true h.1, List.length_cons, un, ← unSeq_eq h.2]
    | _ => simp [unSeq] at h
theorem isHole_eq {x : Option It} (h : isHole x = true) : x = some .hole := by
  unfold isHole at h
  split at h
  · rfl
  · cases h
theorem holeOf_eq {it : List It} {cells : List PV} {m : Nat} (h : holeOf it cells = some m) : cells = un (2000 + 20 * m) 10 ∧ it[m]? = some .hole := by
  unfold holeOf at h
  split at h
  · rename_i k r
    split at h
    · rename_i hb
      cases h
      simp only [Bool.and_eq_true] at hb
      obtain ⟨b1, b2, b3, b4, b5⟩ := hb
      have b2 := Nat.eq_of_beq_eq_true b2
      have b3 := Nat.eq_of_beq_eq_true b3
      refine ⟨?_, isHole_eq b5⟩
      rw [b2]
      have := unSeq_eq b4
      rw [List.length_cons, b3] at this
      exact this
    · cases h
  · cases h
theorem partsB_ok {n : Nat} {p : List PV → Bool} {c : PV} (h : partsB n p c = true) (σ : Nat → PV) : ∃ ks : List (List PV), Ls (Ev.sub σ c) (ks.map (subL σ)) ∧ ks.length ≤ n ∧ ∀ k ∈ ks, p k = true := by
  unfold partsB at h
  split at h
  · exact ⟨[], .inl ⟨by rw [Ev.sub], rfl⟩, Nat.zero_le _, fun k hk => by cases hk⟩
  · rename_i es ex
    simp only [Bool.and_eq_true] at h
    exact ⟨es, .inr ⟨ex, by rw [Ev.sub, subE_map]⟩, Nat.le_of_ble_eq_true h.1, fun k hk => List.all_eq_true.1 h.2 k hk⟩
  · cases h
theorem Ls.formed {p : PV} {ks : List (List PV)} (h : Ls p ks) (hk : ∀ k ∈ ks, ∀ c ∈ k, formed c) : A.formed p := by
  rcases h with ⟨rfl, _⟩ | ⟨ex, rfl⟩
  · exact ⟨.inl ⟨_, rfl⟩, rfl⟩
  · exact formed_sl hk
theorem body_sub (σ : Nat → PV) (c : List PV) : body (subL σ c) = subL σ (body c) := by
  rw [subL_map, subL_map]
  unfold body
  rw [List.map_take, List.map_drop]
theorem etB_ok {σ : Nat → PV} (H : SOk σ) {it : List It} {X : Nat → List PV} {n : Nat} (hX : ∀ m, it[m]? = some .hole → subL σ (un (2000 + 20 * m) 10) = X m ∧ Et (lev n it m) (X m)) :
    ∀ (f j : Nat) (cells : List PV), etB it f j cells = true → Et (n + 1 - j) (subL σ cells) := by
  have hpos : ∀ m, it[m]? = some .hole → 1 ≤ lev n it m := fun m hm => by
    have := (hX m hm).2
    cases hq : lev n it m with
    | zero => rw [hq] at this; cases this
    | succ k => omega
  intro f
  induction f with
  | zero => intro j cells h; cases h
  | succ f ih =>
    intro j cells h
    unfold etB at h
    split at h
    · rename_i m hm
      obtain ⟨rfl, hh⟩ := holeOf_eq hm
      obtain ⟨e1, e2⟩ := hX m hh
      rw [e1]
      simp only [Bool.or_eq_true, Bool.and_eq_true] at h
      rcases h with h | ⟨h, h2⟩
      · rw [Nat.eq_of_beq_eq_true h]
        exact e2.mono (by unfold lev; split <;> omega)
      · rw [Nat.eq_of_beq_eq_true h]
        exact e2.mono (by unfold lev; rw [h2]; simp only []; omega)
    · simp only [Bool.and_eq_true] at h
      obtain ⟨hj, h⟩ := h
      have hjn : j ≤ n := by
        simp only [Bool.or_eq_true, Bool.and_eq_true] at hj
        rcases hj with hj | ⟨hj, ha⟩ | ⟨hj, ha⟩
        · rw [Nat.eq_of_beq_eq_true hj]; omega
        · rw [Nat.eq_of_beq_eq_true hj]
          obtain ⟨x, hx, hx2⟩ := List.any_eq_true.1 ha
          obtain ⟨m, hm⟩ := List.getElem?_of_mem hx
          have : it[m]? = some .hole := by
            rw [hm]
            split at hx2
            · rfl
            · cases hx2
          have := hpos m this
          unfold lev at this
          split at this <;> omega
        · rw [Nat.eq_of_beq_eq_true hj]
          unfold twoHole at ha
          rw [Bool.and_eq_true] at ha
          have := hpos 3 (isHole_eq ha.1)
          unfold lev at this
          rw [ha.2] at this
          simp only [] at this
          omega
      split at h
      · rename_i kd c1 c2 t kp ky cp ty c8 c9 _hh
        simp only [Bool.and_eq_true] at h
        obtain ⟨h1, h2, h3, h4⟩ := h
        have g2 := fun c hc => rf2_ok H (List.all_eq_true.1 h2 c hc)
        obtain ⟨ks, k1, k2, k3⟩ := partsB_ok h3 σ
        obtain ⟨cs, d1, d2, d3⟩ := partsB_ok h4 σ
        have hk : ∀ k ∈ ks.map (subL σ), Et (n - j) k := fun k hk => by
          obtain ⟨x, hx, rfl⟩ := List.mem_map.1 hk
          have := ih (j + 1) x (k3 x hx)
          rwa [show n + 1 - (j + 1) = n - j by omega] at this
        have hbod : ∀ c ∈ cs, Et (n - j) (subL σ (body c)) := fun c hc => by
          have := d3 c hc
          simp only [Bool.and_eq_true] at this
          have := ih (j + 1) _ this.2
          rwa [show n + 1 - (j + 1) = n - j by omega] at this
        have hcl : ∀ c ∈ cs, _root_.Go.Ev.Cl (subL σ c) := fun c hc => by
          have hc0 := d3 c hc
          simp only [Bool.and_eq_true] at hc0
          have h := hc0.1
          clear hc0
          have hbc := hbod c hc
          clear hc
          unfold clB at h
          split at h
          · rename_i p r
            simp only [Bool.and_eq_true] at h
            obtain ⟨b1, b2, b3⟩ := h
            have hl : (p :: r).length = 19 := by rw [List.length_cons, Nat.eq_of_beq_eq_true b1]
            have hl' : (subL σ (p :: r)).length = 19 := by rw [subL_map, List.length_map]; exact hl
            have hrf : ∀ x ∈ (p :: r).take 8 ++ (p :: r).drop 18, Nice 20 (Ev.sub σ x) := fun x hx => rf2_ok H (List.all_eq_true.1 b2 x hx)
            have hfm : ∀ x ∈ subL σ (p :: r), formed x := by
              intro x hx
              rw [clause_cut hl'] at hx
              rcases List.mem_append.1 hx with hx | hx
              · rw [subL_map, ← List.map_take] at hx
                obtain ⟨y, hy, rfl⟩ := List.mem_map.1 hx
                exact (hrf y (List.mem_append_left _ hy)).2
              rcases List.mem_append.1 hx with hx | hx
              · rw [body_sub] at hx
                exact hbc.facts.2.1 x hx
              · rw [subL_map, ← List.map_drop] at hx
                obtain ⟨y, hy, rfl⟩ := List.mem_map.1 hx
                exact (hrf y (List.mem_append_right _ hy)).2
            refine ⟨hl', hfm, fun x hx => ?_, Ev.sub σ p, subL σ r, by rw [subL], known37 hl' hfm (by rw [subL]), ?_⟩
            · rw [subL_map, ← List.map_take, ← List.map_drop, ← List.map_append] at hx
              obtain ⟨y, hy, rfl⟩ := List.mem_map.1 hx
              exact (hrf y hy).1
            · exact known36 H (List.all_eq_true.1 b2 p (by simp)) b3
          · cases h
        obtain ⟨t', ht'⟩ : ∃ t', Ev.sub σ t = Str t' := by
          unfold txtB at h1
          split at h1
          · rename_i s; exact ⟨s.data.toList, by rw [Ev.sub]⟩
          · rename_i k
            obtain ⟨t', e⟩ := H.txt
            exact ⟨t', by rw [Ev.sub, Nat.eq_of_beq_eq_true h1]; exact e⟩
          · cases h1
        rw [show n + 1 - j = (n - j) + 1 by omega]
        have := Et.mk (n := n - j) (kd := kd) (t := t') (c1 := Ev.sub σ c1) (c2 := Ev.sub σ c2) (kp := Ev.sub σ kp) (ky := Ev.sub σ ky) (cp := Ev.sub σ cp) (ty := Ev.sub σ ty) (c8 := Ev.sub σ c8) (c9 := Ev.sub σ c9) (ks := ks.map (subL σ)) (cs := cs.map (subL σ))
          (fun c hc => by
            simp only [List.mem_cons, List.not_mem_nil, or_false] at hc
            rcases hc with rfl | rfl | rfl | rfl | rfl | rfl | rfl | rfl
            · exact (g2 c1 (by simp)).2
            · exact (g2 c2 (by simp)).2
            · exact Ls.formed k1 fun k hk' => (hk k hk').facts.2.1
            · exact (g2 ky (by simp)).2
            · exact Ls.formed d1 fun k hk' => by
                obtain ⟨x, hx, rfl⟩ := List.mem_map.1 hk'
                exact (hcl x hx).fm
            · exact (g2 ty (by simp)).2
            · exact (g2 c8 (by simp)).2
            · exact (g2 c9 (by simp)).2)
          (fun c hc => by
            simp only [List.mem_cons, List.not_mem_nil, or_false] at hc
            rcases hc with rfl | rfl | rfl | rfl | rfl | rfl
            · exact (g2 c1 (by simp)).1
            · exact (g2 c2 (by simp)).1
            · exact (g2 ky (by simp)).1
            · exact (g2 ty (by simp)).1
            · exact (g2 c8 (by simp)).1
            · exact (g2 c9 (by simp)).1)
          k1 (by rw [List.length_map]; exact k2) hk d1 (by rw [List.length_map]; exact d2)
          (fun c hc => by
            obtain ⟨x, hx, rfl⟩ := List.mem_map.1 hc
            exact hcl x hx)
          (fun c hc => by
            obtain ⟨x, hx, rfl⟩ := List.mem_map.1 hc
            rw [body_sub]; exact hbod x hx)
        rw [← ht'] at this
        have e : subL σ [.v (.int .i64 (.ofNat kd)), c1, c2, t, kp, ky, cp, ty, c8, c9] = [i kd, Ev.sub σ c1, Ev.sub σ c2, Ev.sub σ t, Ev.sub σ kp, Ev.sub σ ky, Ev.sub σ cp, Ev.sub σ ty, Ev.sub σ c8, Ev.sub σ c9] := by
          simp only [subL, Ev.sub]
        rw [e]
        exact this
      · cases h
end
end Go.Ev.A
