/- Operations: cutting. -/
import Derived.Test.YtmlnfoabpcccnaaGreatEvAd
import Derived.Test.YtmlnfoabpcccnaaGreatEvAb
set_option linter.all false
/- Operations: cutting. -/
namespace Go.Ev
variable [Env]
section
variable {P : Program} {T : Types} {w : World} {F : Fz} {M : Mp} {hp : Hp}

theorem TS.opdO {tm : Tm} {a : Act} (h : TS tm a w F M) {x : Option Operand} {q : Option PV} (e : Ev.opdO x tm = some q) : VO w F M q (x.map a.eval) := by
  cases x with
  | none => cases e; trivial
  | some x =>
    unfold Ev.opdO someO at e
    cases hx : Ev.opd x tm with
    | none => simp [hx] at e
    | some p => simp only [hx] at e; cases e; exact h.opd hx

theorem bound_none {d hi m : Nat} (h : bound d none hi = some m) : m = d := by simp [bound] at h; exact h.symm

theorem bound_some {d hi m : Nat} {p : PV} {v : Value} (hv : VR w F M p v) (h : bound d (some p) hi = some m) (code : BoundsCode) : m ≤ hi ∧ (Instr.sliceBound v hi code).run P w = .ok m w := by
  unfold bound at h
  simp only [] at h
  split at h
  · rename_i k n
    cases hv
    cases n with
    | negSucc j => cases h
    | ofNat j =>
      simp only [] at h
      cases hb : Nat.ble j hi with
      | false => simp [hb] at h
      | true =>
        simp only [hb] at h; cases h
        have hb := Nat.le_of_ble_eq_true hb
        refine ⟨hb, ?_⟩
        have h1 : (0 : Int) ≤ Int.ofNat m ∧ Int.ofNat m ≤ (hi : Int) := ⟨by simp, by simpa using hb⟩
        simp only [Instr.sliceBound, asIntOf, Sem.run_bind, Sem.run_pure, Result.andThen_ok, h1, and_self, if_true, Sem.run_ite]
        rfl
  · cases h

/-- bounds without a third one -/
theorem bounds2 (isSlice : Bool) {len cap : Nat} {lo hi : Option PV} {l' h' : Option Value} (hl : VO w F M lo l') (hh : VO w F M hi h') {h l : Nat} (e1 : bound len hi cap = some h) (e2 : bound 0 lo h = some l) (hlen : len ≤ cap) :
    l ≤ h ∧ h ≤ cap ∧ ∀ cap', cap ≤ cap' → (Instr.sliceBounds isSlice len cap' l' h' none).run P w = .ok (l, h, cap') w := by
  have hle : h ≤ cap := by
    cases hi with
    | none => rw [bound_none e1]; exact hlen
    | some p =>
      cases h' with
      | none => exact hh.elim
      | some v => exact (bound_some (P := P) hh e1 .sliceB).1
  have hll : l ≤ h := by
    cases lo with
    | none => rw [bound_none e2]; exact Nat.zero_le _
    | some p =>
      cases l' with
      | none => exact hl.elim
      | some v => exact (bound_some (P := P) hl e2 .sliceB).1
  refine ⟨hll, hle, fun cap' hc => ?_⟩
  have rh : ∀ (code : BoundsCode), (match h' with | some v => Instr.sliceBound v cap' code | none => (pure len : Sem Nat)).run P w = .ok h w := by
    intro code
    cases hi with
    | none =>
      cases h' with
      | none => rw [bound_none e1]; rfl
      | some v => exact hh.elim
    | some p =>
      cases h' with
      | none => exact hh.elim
      | some v =>
        have e3 : bound len (some p) cap' = some h := by
          unfold bound at e1 ⊢
          simp only [] at e1 ⊢
          split at e1
          · split at e1
            · rename_i j
              cases hb : Nat.ble j cap with
              | false => simp [hb] at e1
              | true =>
                have : Nat.ble j cap' = true := Nat.ble_eq_true_of_le (Nat.le_trans (Nat.le_of_ble_eq_true hb) hc)
                simp only [hb] at e1; simp only [this]; exact e1
            · cases e1
          · cases e1
        exact (bound_some hh e3 code).2
  have rl : ∀ (code : BoundsCode), (match l' with | some v => Instr.sliceBound v h code | none => (pure 0 : Sem Nat)).run P w = .ok l w := by
    intro code
    cases lo with
    | none =>
      cases l' with
      | none => rw [bound_none e2]; rfl
      | some v => exact hl.elim
    | some p =>
      cases l' with
      | none => exact hl.elim
      | some v => exact (bound_some hl e2 code).2
  unfold Instr.sliceBounds
  cases h' with
  | none =>
    have h1 := rh .sliceB
    have h2 := rl .sliceB
    cases l' <;> simp_all
  | some v =>
    have h1 := rh (if isSlice then .sliceAcap else .sliceAlen)
    have h2 := rl .sliceB
    cases l' <;> simp_all

/-- bounds with a third one -/
theorem bounds3 {len cap : Nat} {lo hi : Option PV} {mx : PV} {l' h' : Option Value} {m' : Value} (hl : VO w F M lo l') (hh : VO w F M hi h') (hm : VR w F M mx m') {m h l : Nat} {q : PV} (hq : hi = some q)
    (e0 : bound 0 (some mx) cap = some m) (e1 : bound 0 hi m = some h) (e2 : bound 0 lo h = some l) :
    l ≤ h ∧ h ≤ m ∧ m ≤ cap ∧ ∀ cap', cap ≤ cap' → (Instr.sliceBounds true len cap' l' h' (some m')).run P w = .ok (l, h, m) w := by
  subst hq
  have h0 := (bound_some (P := P) hm e0 .sliceB).1
  cases h' with
  | none => exact hh.elim
  | some hv =>
    have h1 := (bound_some (P := P) hh e1 .sliceB).1
    have h2 : l ≤ h := by
      cases lo with
      | none => rw [bound_none e2]; exact Nat.zero_le _
      | some p =>
        cases l' with
        | none => exact hl.elim
        | some v => exact (bound_some (P := P) hl e2 .sliceB).1
    refine ⟨h2, h1, h0, fun cap' hc => ?_⟩
    have e3 : bound 0 (some mx) cap' = some m := by
      unfold bound at e0 ⊢
      simp only [] at e0 ⊢
      split at e0
      · split at e0
        · rename_i j
          cases hb : Nat.ble j cap with
          | false => simp [hb] at e0
          | true =>
            have : Nat.ble j cap' = true := Nat.ble_eq_true_of_le (Nat.le_trans (Nat.le_of_ble_eq_true hb) hc)
            simp only [hb] at e0; simp only [this]; exact e0
        · cases e0
      · cases e0
    have r0 := (bound_some (P := P) hm e3 .slice3Acap).2
    have r1 := (bound_some (P := P) hh e1 .slice3B).2
    unfold Instr.sliceBounds
    simp only [Sem.run_bind, if_true, r0, Result.andThen_ok, r1]
    cases lo with
    | none =>
      cases l' with
      | none => rw [bound_none e2]; rfl
      | some v => exact hl.elim
    | some p =>
      cases l' with
      | none => exact hl.elim
      | some v =>
        have r2 := (bound_some (P := P) hl e2 .slice3C).2
        simp [r2]

theorem sliceAt_slice {t e : TypeId} (h : P.underlying t = some (.slice e)) (x : Value) (l h' m : Option Value) : (Instr.sliceAt t x l h' m).run P w = (Instr.slice t x l h' m).run P w := by
  unfold Instr.sliceAt
  simp only [Sem.run_bind, run_underlying h, Result.andThen_ok]
theorem sliceAt_str {t : TypeId} (h : P.underlying t = some .string) (x : Value) (l h' m : Option Value) : (Instr.sliceAt t x l h' m).run P w = (Instr.slice t x l h' m).run P w := by
  unfold Instr.sliceAt
  simp only [Sem.run_bind, run_underlying h, Result.andThen_ok]

/-- a piece of a value's elements -/
theorem sl_piece {es : List (List PV)} {b o sz : Nat} {f : Nat → Nat → Value} (h3 : ∀ (i : Nat) e, es[i]? = some e → e.length = sz)
    (h4 : ∀ (i j : Nat) e c, es[i]? = some e → e[j]? = some c → cellOk c = true ∧ F b (o + i * sz + j) ∧ w.cell? ⟨b, o + i * sz + j, none⟩ = some (f i j))
    (h5 : ∀ (i j : Nat) e c, es[i]? = some e → e[j]? = some c → VR w F noMap c (f i j)) {l h cap o' : Nat} (ho : o' = o + l * sz ∨ (es.take h).drop l = []) {ex : Bool} (hle : l ≤ h) (hh : h ≤ es.length)
    (hex : ex = true → cap = h - l) (hcap : h - l ≤ cap) : VR w F M (.sl ((es.take h).drop l) ex) (.slice (some ⟨b, o', none⟩) (h - l) cap) := by
  have hlen : ((es.take h).drop l).length = h - l := by simp; omega
  have key := VR.sl (w := w) (F := F) (M := M) (es := (es.take h).drop l) (ex := ex) (b := b) (o := o') (cap := cap) (sz := sz) (f := fun i j => f (l + i) j)
    (by rw [hlen]; exact hex) (by rw [hlen]; exact hcap)
    (fun i e he => by
      rw [List.getElem?_drop, List.getElem?_take] at he
      split at he
      · exact h3 _ _ he
      · cases he)
    (fun i j e c he hc => by
      have he' := he
      rw [List.getElem?_drop, List.getElem?_take] at he'
      split at he'
      · rcases ho with rfl | ho
        · have := h4 (l + i) j e c he' hc
          rw [show o + l * sz + i * sz + j = o + (l + i) * sz + j by rw [Nat.add_mul]; omega]
          exact this
        · rw [ho] at he; simp at he
      · cases he')
    (fun i j e c he hc => by
      rw [List.getElem?_drop, List.getElem?_take] at he
      split at he
      · exact h5 (l + i) j e c he hc
      · cases he)
  rw [hlen] at key
  exact key

theorem sliceOf_sound0 (hT : TOk P T) {t : TypeId} {x p : PV} {v : Value} {lo hi mx : Option PV} {l' h' m' : Option Value} (hx : VR w F M x v) (hl : VO w F M lo l') (hh : VO w F M hi h') (hm : VO w F M mx m')
    (e : sliceOf0 T t x lo hi mx = some p) : GoodQ w F M ((Instr.sliceAt t v l' h' m').run P w) p hp hp := by
  unfold sliceOf0 at e
  cases hti : T.get t with
  | none => simp [hti] at e
  | some si =>
    simp only [hti] at e
    obtain ⟨info, u, z, hz, _⟩ := hT.get hti
    cases hk : Nat.beq si.kind 1 with
    | false =>
      simp only [hk] at e
      cases hk4 : Nat.beq si.kind 4 with
      | false => simp [hk4] at e
      | true =>
        simp only [hk4] at e
        obtain rfl := hz.k4 (Nat.eq_of_beq_eq_true hk4)
        split at e
        · rename_i s
          cases hx
          have hm' : m' = none := by cases m' with
            | none => rfl
            | some y => exact hm.elim
          subst hm'
          unfold sliceStr at e
          cases eh : bound s.data.toList.length hi s.data.toList.length with
          | none => simp only [eh] at e; cases e
          | some h =>
            simp only [eh] at e
            cases el : bound 0 lo h with
            | none => simp only [el] at e; cases e
            | some l =>
              simp only [el] at e; cases e
              obtain ⟨h1, h2, h3⟩ := bounds2 (P := P) false hl hh eh el (Nat.le_refl _)
              have h4 := h3 s.data.toList.length (Nat.le_refl _)
              have hsz : s.data.toList.length = s.size := Array.length_toList
              rw [hsz] at h4
              refine GoodQ.of (v := .string (s.extract l h)) ?_ ?_
              · rw [sliceAt_str hz.und]
                unfold Instr.slice
                simp only [Sem.run_bind, run_underlying hz.und, Result.andThen_ok, Option.isSome_none, Bool.false_eq_true, if_false, Sem.run_pure, h4]
              · have : s.extract l h = ⟨⟨(s.data.toList.take h).drop l⟩⟩ := by
                  rw [Lib.extract_eq, ← List.drop_take]
                rw [this]; exact .v rfl
        · cases e
    | true =>
      simp only [hk] at e
      obtain rfl := hz.k1 (Nat.eq_of_beq_eq_true hk)
      unfold sizeT at e
      cases hj : T.get si.elem with
      | none => simp [hj] at e
      | some j =>
        obtain ⟨jinfo, ju, jz, js, _⟩ := hT.get hj
        simp only [hj] at e
        have hrun : ∀ {a : Option Addr} {len cap l h m : Nat}, v = .slice a len cap → (Instr.sliceBounds true len cap l' h' m').run P w = .ok (l, h, m) w →
            (Instr.sliceAt t v l' h' m').run P w = .ok (.slice (if m = l then a else a.map (·.add (l * j.size))) (h - l) (m - l)) w := by
          intro a len cap l h m hv hb
          subst hv
          rw [sliceAt_slice hz.und]
          unfold Instr.slice
          simp only [Sem.run_bind, run_underlying hz.und, Result.andThen_ok, hb, run_sizeOf' w js.hinfo, Sem.run_pure, js.size]
        cases hx with
        | v hf =>
          split at e
          · rename_i hv; cases hv
            unfold sliceNil at e
            cases hhi : hasHigh hi mx with
            | false => simp [hhi] at e
            | true =>
            simp only [hhi] at e
            cases em : bound 0 mx 0 with
            | none => simp [em] at e
            | some m =>
              cases eh : bound 0 hi 0 with
              | none => simp [em, eh] at e
              | some h =>
                cases el : bound 0 lo 0 with
                | none => simp [em, eh, el] at e
                | some l =>
                  simp only [em, eh, el] at e; cases e
                  have hz0 : ∀ {x : Option PV} {y : Option Value} {n : Nat}, VO w F M x y → bound 0 x 0 = some n → n = 0 := by
                    intro x y n hv hb
                    cases x with
                    | none => exact bound_none hb
                    | some q =>
                      cases y with
                      | none => exact hv.elim
                      | some v => have := (bound_some (P := P) hv hb .sliceB).1; omega
                  obtain rfl := hz0 hm em
                  obtain rfl := hz0 hh eh
                  obtain rfl := hz0 hl el
                  refine GoodQ.of (v := .slice none 0 0) ?_ (.v rfl)
                  cases mx with
                  | none =>
                    cases m' with
                    | some y => exact hm.elim
                    | none =>
                      obtain ⟨_, _, g3⟩ := bounds2 (P := P) true hl hh eh el (Nat.le_refl _)
                      rw [hrun rfl (g3 0 (Nat.le_refl _))]; rfl
                  | some mp =>
                    cases m' with
                    | none => exact hm.elim
                    | some mv =>
                      cases hi with
                      | none => simp [hasHigh] at hhi
                      | some hq =>
                        obtain ⟨_, _, _, g3⟩ := bounds3 (P := P) hl hh hm rfl em eh el
                        rw [hrun rfl (g3 0 (Nat.le_refl _))]; rfl
          · rename_i hv; cases hv
          · rename_i hv; cases hv
          · cases e
        | sl h1 h2 h3 h4 h5 =>
          rename_i es ex b o cap sz f
          cases hfit : slFits j.size es with
          | false => simp [hfit] at e
          | true =>
          simp only [hfit] at e
          have hszj : ∀ {l h : Nat}, l ≤ h → h ≤ es.length → o + l * sz = o + l * j.size ∨ (es.take h).drop l = [] := by
            intro l h hlh hh'
            cases hes : es with
            | nil => right; simp
            | cons a r =>
              left
              rw [hes] at hfit
              have q1 : a.length = j.size := Nat.eq_of_beq_eq_true hfit
              have q2 := h3 0 a (by rw [hes]; rfl)
              rw [← q2, q1]
          unfold sliceSl at e
          cases mx with
          | none =>
            have hm' : m' = none := by
              cases m' with
              | none => rfl
              | some y => exact hm.elim
            subst hm'
            simp only [] at e
            cases eh : bound es.length hi es.length with
            | none => simp [eh] at e
            | some h =>
              simp only [eh] at e
              cases el : bound 0 lo h with
              | none => simp [el] at e
              | some l =>
                simp only [el] at e; cases e
                obtain ⟨g1, g2, g3⟩ := bounds2 (P := P) true hl hh eh el (Nat.le_refl _)
                have g4 := g3 cap h2
                refine GoodQ.of (hrun rfl g4) ?_
                have hexx : (ex && Nat.beq h es.length) = true → cap - l = h - l := by
                  intro he
                  simp only [Bool.and_eq_true] at he
                  have q1 := h1 he.1
                  have q2 := Nat.eq_of_beq_eq_true he.2
                  omega
                by_cases hml : cap = l
                · rw [if_pos hml]
                  have hempty : (es.take h).drop l = [] := by
                    apply List.drop_eq_nil_of_le; simp; omega
                  exact sl_piece h3 h4 h5 (.inr hempty) g1 g2 hexx (by omega)
                · rw [if_neg hml]
                  simp only [Option.map_some, add_spot]
                  refine sl_piece h3 h4 h5 ?_ g1 g2 hexx (by omega)
                  rcases hszj g1 g2 with q | q
                  · exact .inl q.symm
                  · exact .inr q
          | some mp =>
            cases m' with
            | none => exact hm.elim
            | some mv =>
              simp only [] at e
              cases em : bound 0 (some mp) es.length with
              | none => simp [em] at e
              | some m =>
                simp only [em] at e
                cases hi with
                | none => simp at e
                | some hq =>
                  simp only [] at e
                  cases eh : bound 0 (some hq) m with
                  | none => simp [eh] at e
                  | some h =>
                    simp only [eh] at e
                    cases el : bound 0 lo h with
                    | none => simp [el] at e
                    | some l =>
                      simp only [el] at e; cases e
                      obtain ⟨g1, g2, g2', g3⟩ := bounds3 (P := P) hl hh hm rfl em eh el
                      have g4 := g3 cap h2
                      refine GoodQ.of (hrun rfl g4) ?_
                      have hexx : Nat.beq m h = true → m - l = h - l := fun he => by rw [Nat.eq_of_beq_eq_true he]
                      by_cases hml : m = l
                      · rw [if_pos hml]
                        have hempty : (es.take h).drop l = [] := by
                          apply List.drop_eq_nil_of_le; simp; omega
                        exact sl_piece h3 h4 h5 (.inr hempty) g1 (by omega) hexx (by omega)
                      · rw [if_neg hml]
                        simp only [Option.map_some, add_spot]
                        refine sl_piece h3 h4 h5 ?_ g1 (by omega) hexx (by omega)
                        rcases hszj (l := l) (h := h) g1 (by omega) with q | q
                        · exact .inl q.symm
                        · exact .inr q
        | row hmm h0 h1 h2 h3 =>
          rename_i id off len cap cap' rs pl
          · cases hbs : Nat.beq rs j.size with
            | false => simp [hbs] at e
            | true =>
              simp only [hbs] at e
              have hbs := Nat.eq_of_beq_eq_true hbs
              have hps : pl.sz = j.size := h0.trans hbs
              have hcc : cap ≤ cap' := by rcases h3 with h3 | h3 <;> omega
              have hlc : len ≤ cap := h1
              unfold sliceRow at e
              have empty : ∀ {bb oo c : Nat} {ex : Bool}, (ex = true → c = 0) → VR w F M (.sl [] ex) (.slice (some ⟨bb, oo, none⟩) 0 c) := by
                intro bb oo c ex hex
                exact VR.sl (es := []) (sz := 0) (f := fun _ _ => undef) (by simpa using hex) (by simp) (by simp) (by simp) (by simp)
              cases mx with
              | none =>
                have hm' : m' = none := by
                  cases m' with
                  | none => rfl
                  | some y => exact hm.elim
                subst hm'
                simp only [] at e
                cases eh : bound len hi cap with
                | none => simp [eh] at e
                | some h =>
                  simp only [eh] at e
                  cases el : bound 0 lo h with
                  | none => simp [el] at e
                  | some l =>
                    simp only [el] at e
                    obtain ⟨g1, g2, g3⟩ := bounds2 (P := P) true hl hh eh el hlc
                    have g4 := g3 cap' hcc
                    refine GoodQ.of (hrun rfl g4) ?_
                    cases hcl : Nat.beq cap l with
                    | true =>
                      simp only [hcl] at e; cases e
                      have hcl := Nat.eq_of_beq_eq_true hcl
                      have hhl : h - l = 0 := by omega
                      rw [hhl]
                      split
                      · exact empty (ex := false) (fun h => Bool.noConfusion h)
                      · simp only [Option.map_some, add_spot]
                        exact empty (ex := false) (fun h => Bool.noConfusion h)
                    | false =>
                      simp only [hcl] at e; cases e
                      have hcl : cap ≠ l := fun e' => by rw [e'] at hcl; simp at hcl
                      have hne : ¬ (cap' = l) := by omega
                      rw [if_neg hne]
                      simp only [Option.map_some, add_spot]
                      rw [← hps, Nat.add_assoc]
                      have hmul : (cap - l) * pl.sz + l * pl.sz = cap * pl.sz := by rw [← Nat.add_mul]; congr 1; omega
                      refine VR.row hmm rfl (by omega) (by omega) ?_
                      rcases h3 with h3 | ⟨h3, h4, h5, h6⟩
                      · left; omega
                      · right
                        have hmul' : (cap' - l) * pl.sz + l * pl.sz = cap' * pl.sz := by rw [← Nat.add_mul]; congr 1; omega
                        exact ⟨h3, by omega, by omega, by omega⟩
              | some mp =>
                cases m' with
                | none => exact hm.elim
                | some mv =>
                  simp only [] at e
                  cases em : bound 0 (some mp) cap with
                  | none => simp [em] at e
                  | some m =>
                    simp only [em] at e
                    cases hi with
                    | none => simp at e
                    | some hq =>
                      simp only [] at e
                      cases eh : bound 0 (some hq) m with
                      | none => simp [eh] at e
                      | some h =>
                        simp only [eh] at e
                        cases el : bound 0 lo h with
                        | none => simp [el] at e
                        | some l =>
                          simp only [el] at e
                          obtain ⟨g1, g2, g2', g3⟩ := bounds3 (P := P) hl hh hm rfl em eh el
                          have g4 := g3 cap' hcc
                          refine GoodQ.of (hrun rfl g4) ?_
                          cases hcl : Nat.beq m l with
                          | true =>
                            simp only [hcl] at e; cases e
                            have hcl := Nat.eq_of_beq_eq_true hcl
                            have hhl : h - l = 0 := by omega
                            rw [hhl, if_pos hcl]
                            exact empty (by intro _; omega)
                          | false =>
                            simp only [hcl] at e; cases e
                            have hcl : m ≠ l := fun e' => by rw [e'] at hcl; simp at hcl
                            rw [if_neg hcl]
                            simp only [Option.map_some, add_spot]
                            rw [← hps, Nat.add_assoc]
                            have hmul : (m - l) * pl.sz + l * pl.sz = m * pl.sz := by rw [← Nat.add_mul]; congr 1; omega
                            have hmc : m * pl.sz ≤ cap * pl.sz := Nat.mul_le_mul_right _ g2'
                            exact VR.row hmm rfl (by omega) (by omega) (.inl rfl)
        | _ => simp at e
theorem sliceOf_sound (hT : TOk P T) {t : TypeId} {x p : PV} {v : Value} {lo hi mx : Option PV} {l' h' m' : Option Value} (hx : VR w F M x v) (hl : VO w F M lo l') (hh : VO w F M hi h') (hm : VO w F M mx m')
    (e : sliceOf T t x lo hi mx = some p) : GoodQ w F M ((Instr.sliceAt t v l' h' m').run P w) p hp hp := by
  unfold sliceOf at e
  split at e
  · split at e
    · have hm' : m' = none := by cases m' with
        | none => rfl
        | some y => exact hm.elim
      subst hm'
      exact hT.ask.slice _ _ _ _ _ e w F M v l' h' hp hx hl hh
    · cases e
  · exact sliceOf_sound0 hT hx hl hh hm e
end
end Go.Ev

/- The evaluator's heap in a world, more: a draw, a block that is given up, a row that grows in its place. -/
namespace Go.Ev
variable [Env]
open RowKit

theorem VR.heap {w w' : World} {F M p y} (h : VR w F M p y) (e : w'.heap = w.heap) : VR w' F M p y :=
  h.mono (fun _ _ h => h) (fun b o _ => World.cell?_of_block (a := ⟨b, o, none⟩) (by rw [e])) (fun _ _ h => h)
theorem VL.heap {w w' : World} {F M p y} (h : VL w F M p y) (e : w'.heap = w.heap) : VL w' F M p y :=
  h.mono (fun _ _ h => h) (fun b o _ => World.cell?_of_block (a := ⟨b, o, none⟩) (by rw [e])) (fun _ _ h => h)

theorem Ext.heap {w w' : World} {F M} (e : w'.heap = w.heap) (h1 : w'.os = w.os) (h2 : w'.tape = w.tape) (h3 : w'.output = w.output) : Ext w w' F F M M :=
  ⟨h1, h2, h3, by rw [e]; exact Nat.le_refl _, fun _ _ _ => by rw [e], fun b o _ => World.cell?_of_block (a := ⟨b, o, none⟩) (by rw [e]), fun _ _ h => h, fun _ _ h => h, fun _ _ h => .inl h, fun _ _ h => .inl h⟩

theorem HS.heap {h : Hp} {w w' : World} {F M} (hs : HS h w F M) (e : w'.heap = w.heap) : HS h w' F M where
  br := fun id b p hg hm => (hs.br id b p hg hm).mono (by rw [e]) (fun _ _ h => h) (fun b o _ => World.cell?_of_block (a := ⟨b, o, none⟩) (by rw [e])) (fun _ _ h => h) fun _ h => h
  inj := hs.inj
  lt := fun id p hm => by rw [e]; exact hs.lt id p hm
  fresh := hs.fresh
  fw := fun b o hF => by rw [e]; exact hs.fw b o hF
  ms := hs.ms.mono (Nat.le_refl _) (fun _ _ => by rw [e]) (fun _ _ h => h) (fun b o _ => World.cell?_of_block (a := ⟨b, o, none⟩) (by rw [e])) (fun _ _ h => h) fun _ _ _ h => h

theorem HS.kill {h : Hp} {w F M} (hs : HS h w F M) (id : Nat) : HS (h.kill id) w F M where
  br := fun i b p hg hm => by
    rw [Hp.get_kill] at hg
    split at hg
    · cases hg
    · exact hs.br i b p hg hm
  inj := fun i j bi bj p q hi hj hp hq e => by
    rw [Hp.get_kill] at hi hj
    split at hi
    · cases hi
    · split at hj
      · cases hj
      · exact hs.inj i j bi bj p q hi hj hp hq e
  lt := hs.lt
  fresh := fun i b hg => by
    rw [Hp.get_kill] at hg
    split at hg
    · cases hg
    · exact hs.fresh i b hg
  fw := hs.fw
  ms := hs.ms

/-- a row takes cells behind its end, where its block has room -/
theorem HS.grow {h : Hp} {w F M} (hs : HS h w F M) {id : Nat} {b : Blk} {p : Pl} (hg : h.get id = some b) (hm : M id = some p) {off : Nat} {xs : List PV} {ys : List Value}
    (hoff : off ≤ p.n) (hfr : b.frz ≤ p.n) (hv : VL w F M xs ys) (hroom : p.sh + p.n + ys.length ≤ p.B) {sz : Nat} :
    ∃ c e, w.heap[p.b]? = some (.cells c e (0, 0)) ∧ p.sh + p.n + ys.length ≤ c.size ∧
      let c' : Array Value := (c.toList.take (p.sh + p.n) ++ ys ++ c.toList.drop (p.sh + p.n + ys.length)).toArray
      let q : Pl := ⟨p.b, p.sh + off, (b.cells.drop off ++ xs).length, p.B, sz, true⟩
      HS ((h.kill id).new ⟨b.cells.drop off ++ xs, sz, true, b.frz - off, b.ty⟩) (w.setRow p.b c') F (M.up h.next q) ∧ Ext w (w.setRow p.b c') F F M (M.up h.next q) := by
  have br := hs.br id b p hg hm
  obtain ⟨c, e, h1, h2, h3, h4⟩ := br.blk
  have hl : p.sh + p.n + ys.length ≤ c.size := by omega
  refine ⟨c, e, h1, hl, ?_⟩
  intro c' q
  have hc's : c'.size = c.size := by
    simp only [c', List.size_toArray, List.length_append, List.length_take, List.length_drop, Array.length_toList]; omega
  have hrow : (w.setRow p.b c').heap[p.b]? = some (.cells c' e (0, 0)) := setRow_heap w p.b c c' e (0, 0) h1
  have hc'in : ∀ k, k < p.sh + p.n → c'[k]? = c[k]? := by
    intro k hk
    simp only [c', List.getElem?_toArray]
    rw [List.append_assoc, List.getElem?_append_left (by simp; omega), List.getElem?_take, if_pos hk]
    simp
  have hc'mid : ∀ k, k < ys.length → c'[p.sh + p.n + k]? = ys[k]? := by
    intro k hk
    simp only [c', List.getElem?_toArray]
    rw [List.append_assoc, List.getElem?_append_right (by simp; omega)]
    simp only [List.length_take, Array.length_toList]
    rw [show p.sh + p.n + k - min (p.sh + p.n) c.size = k by omega]
    rw [List.getElem?_append_left hk]
  have hcell : ∀ b' o, F b' o → (w.setRow p.b c').cell? ⟨b', o, none⟩ = w.cell? ⟨b', o, none⟩ := by
    intro b' o hF
    by_cases hb : b' = p.b
    · subst hb
      rw [cell_of hrow, cell_of h1]
      by_cases ho : o < p.sh + p.n
      · exact hc'in o ho
      · exact absurd hF (br.nf o (by omega))
    · exact World.cell?_of_block (a := ⟨b', o, none⟩) (setRow_other w p.b b' c' hb)
  have hMup : ∀ i r, M i = some r → (M.up h.next q) i = some r := fun i r hr => by
    have : i ≠ h.next := fun e' => by have := (hs.lt _ _ hr).1; omega
    rw [Mp.up_ne _ _ this]; exact hr
  have hx : Ext w (w.setRow p.b c') F F M (M.up h.next q) :=
    ⟨rfl, rfl, rfl, by simp, fun k _ hn => setRow_other w p.b k c' (fun e' => hn id p hm e'.symm), hcell, hMup, fun _ _ h => h,
      fun i r hr => by
        by_cases e' : i = h.next
        · subst e'; rw [Mp.up_self] at hr; cases hr; exact .inr (.inr ⟨id, p, hm, rfl⟩)
        · rw [Mp.up_ne _ _ e'] at hr; exact .inl hr,
      fun _ _ h => .inl h⟩
  have hid : id < h.next := hs.fresh _ _ hg
  have alive : ∀ k bk, ((h.kill id).new ⟨b.cells.drop off ++ xs, sz, true, b.frz - off, b.ty⟩).get k = some bk → (k = h.next ∧ bk = ⟨b.cells.drop off ++ xs, sz, true, b.frz - off, b.ty⟩) ∨ (k ≠ h.next ∧ k ≠ id ∧ h.get k = some bk) := by
    intro k bk hk
    rw [Hp.get_new] at hk
    have hnx : (h.kill id).next = h.next := rfl
    rw [hnx] at hk
    by_cases e' : h.next = k
    · rw [if_pos e'] at hk; cases hk; exact .inl ⟨e'.symm, rfl⟩
    · rw [if_neg e', Hp.get_kill] at hk
      by_cases e2 : k = id
      · rw [if_pos e2] at hk; cases hk
      · rw [if_neg e2] at hk; exact .inr ⟨fun e3 => e' e3.symm, e2, hk⟩
  refine ⟨⟨?_, ?_, ?_, ?_, ?_, hs.ms.mono (Nat.le_succ _) (fun b' hb => setRow_other w p.b b' c' fun e' => notMap h1 (e' ▸ hb)) hx.mF hx.cell hx.mM fun i hi r hr => by
    rwa [Mp.up_ne _ _ (Nat.ne_of_lt hi)] at hr⟩, hx⟩
  · intro i bi r hgi hmi
    rcases alive i bi hgi with ⟨rfl, rfl⟩ | ⟨hi1, hi2, hgi'⟩
    · rw [Mp.up_self] at hmi; cases hmi
      have hbl : (b.cells.drop off).length = p.n - off := by rw [List.length_drop, ← br.n]
      refine ⟨rfl, rfl, rfl, ⟨c', e, hrow, by rw [hc's]; exact h2, ?_, ?_⟩, ?_, fun h => (by cases h), c', by rw [hrow]; obtain ⟨c0, hc0⟩ := br.ty.2; rw [h1] at hc0; cases hc0; rfl⟩
      · show p.sh + off + (b.cells.drop off ++ xs).length ≤ p.B
        rw [List.length_append, hbl, ← hv.1]; omega
      · intro o x hx'
        show cellOk x = true ∧ ∃ y, c'[p.sh + off + o]? = some y ∧ _
        by_cases ho : o < p.n - off
        · rw [List.getElem?_append_left (by rw [hbl]; exact ho), List.getElem?_drop] at hx'
          obtain ⟨h5, y, h6, h7⟩ := h4 (off + o) x hx'
          refine ⟨h5, y, ?_, h7.ext hx⟩
          rw [hc'in _ (by omega), show p.sh + off + o = p.sh + (off + o) by omega]; exact h6
        · rw [List.getElem?_append_right (by rw [hbl]; omega), hbl] at hx'
          have hyl : o - (p.n - off) < ys.length := by rw [hv.1]; exact (List.getElem?_eq_some_iff.1 hx').1
          have hy : ys[o - (p.n - off)]? = some ys[o - (p.n - off)] := List.getElem?_eq_getElem hyl
          refine ⟨(hv.2 _ _ _ hx' hy).1, ys[o - (p.n - off)], ?_, ((hv.2 _ _ _ hx' hy).2).ext hx⟩
          have := hc'mid (o - (p.n - off)) hyl
          rw [show p.sh + p.n + (o - (p.n - off)) = p.sh + off + o by omega] at this
          rw [this]; exact hy
      · intro o ho hF
        refine br.nf o ?_ hF
        have : p.sh + off + (b.frz - off) ≤ o := ho
        omega
    · rw [Mp.up_ne _ _ hi1] at hmi
      have hne : r.b ≠ p.b := fun e' => hi2 (hs.inj i id bi b r p hgi' hg hmi hm e')
      exact (hs.br i bi r hgi' hmi).mono (setRow_other w p.b r.b c' hne) hx.mF hx.cell hx.mM fun _ h => h
  · intro i j bi bj r r' hi hj hr hr' e'
    rcases alive i bi hi with ⟨rfl, _⟩ | ⟨hi1, hi2, hgi⟩
    · rcases alive j bj hj with ⟨rfl, _⟩ | ⟨hj1, hj2, hgj⟩
      · rfl
      · rw [Mp.up_self] at hr; cases hr
        rw [Mp.up_ne _ _ hj1] at hr'
        exact absurd (hs.inj j id bj b r' p hgj hg hr' hm e'.symm) hj2
    · rw [Mp.up_ne _ _ hi1] at hr
      rcases alive j bj hj with ⟨rfl, _⟩ | ⟨hj1, hj2, hgj⟩
      · rw [Mp.up_self] at hr'; cases hr'
        exact absurd (hs.inj i id bi b r p hgi hg hr hm e') hi2
      · rw [Mp.up_ne _ _ hj1] at hr'
        exact hs.inj i j bi bj r r' hgi hgj hr hr' e'
  · intro i r hr
    show i < h.next + 1 ∧ _
    by_cases e' : i = h.next
    · subst e'; rw [Mp.up_self] at hr; cases hr
      exact ⟨by omega, by simpa using (hs.lt _ _ hm).2⟩
    · rw [Mp.up_ne _ _ e'] at hr
      have := hs.lt i r hr
      exact ⟨by omega, by simpa using this.2⟩
  · intro i bi hi
    show i < h.next + 1
    rcases alive i bi hi with ⟨rfl, _⟩ | ⟨_, _, hgi⟩
    · omega
    · have := hs.fresh _ _ hgi; omega
  · intro b' o hF
    simpa using hs.fw _ _ hF
end Go.Ev

/- Operations: append and copy. -/
namespace Go.Ev
variable [Env]
section
variable {P : Program} {T : Types} {w : World} {F : Fz} {M : Mp} {hp : Hp}

theorem growBy_le (n : Nat) : ∀ (r c : Nat), Builtin.growBy n r c ≤ max c (n + (n + 768) / 4)
  | 0, c => by simp [Builtin.growBy]; omega
  | r + 1, c => by
    unfold Builtin.growBy
    split
    · omega
    · rename_i h
      have := growBy_le n r (c + (c + 768) / 4)
      omega

theorem nextcap_le {n c : Nat} (h : c < n) : Builtin.nextslicecap n c ≤ 2 * n + 1024 := by
  unfold Builtin.nextslicecap
  split
  · omega
  · split
    · omega
    · have := growBy_le n 4 c; omega

theorem limited_spec {need bytes c : Nat} (h : limited need bytes = true) (hc : c < need) : Builtin.nextslicecap need c * bytes ≤ 2 ^ 48 := by
  have h1 := Nat.le_of_ble_eq_true h
  have h2 := nextcap_le hc
  have h3 : Builtin.nextslicecap need c * bytes ≤ (2 * need + 1024) * bytes := Nat.mul_le_mul_right _ h2
  have h4 : (2 : Nat) ^ 48 = 281474976710656 := by decide
  omega

theorem sized_spec {sz : Nat} : ∀ {es : List (List PV)}, sized sz es = true → ∀ e ∈ es, e.length = sz
  | [], _, _, h => by cases h
  | e :: l, h, x, hx => by
    unfold sized at h
    cases hb : Nat.beq e.length sz with
    | false => simp [hb] at h
    | true =>
      simp only [hb] at h
      cases hx with
      | head => exact Nat.eq_of_beq_eq_true hb
      | tail _ hx => exact sized_spec h x hx

theorem flatten_get {sz : Nat} (hs : 0 < sz) : ∀ {es : List (List PV)}, (∀ e ∈ es, e.length = sz) → ∀ (k : Nat) c, es.flatten[k]? = some c → ∃ e, es[k / sz]? = some e ∧ e[k % sz]? = some c
  | [], _, k, c, h => by simp at h
  | e :: l, he, k, c, h => by
    have h0 := he e List.mem_cons_self
    rw [List.flatten_cons] at h
    by_cases hk : k < sz
    · rw [List.getElem?_append_left (by omega)] at h
      exact ⟨e, by rw [Nat.div_eq_of_lt hk]; rfl, by rw [Nat.mod_eq_of_lt hk]; exact h⟩
    · rw [List.getElem?_append_right (by omega), h0] at h
      obtain ⟨e', h1, h2⟩ := flatten_get hs (fun x hx => he x (List.mem_cons_of_mem _ hx)) (k - sz) c h
      refine ⟨e', ?_, ?_⟩
      · rw [show k / sz = (k - sz) / sz + 1 by rw [Nat.div_eq_sub_div hs (by omega)]]; exact h1
      · rw [Nat.mod_eq_sub_mod (by omega)]; exact h2

theorem flatten_length {sz : Nat} : ∀ {es : List (List PV)}, (∀ e ∈ es, e.length = sz) → es.flatten.length = es.length * sz
  | [], _ => by simp
  | e :: l, he => by
    rw [List.flatten_cons, List.length_append, flatten_length (fun x hx => he x (List.mem_cons_of_mem _ hx)), he e List.mem_cons_self]
    simp [Nat.add_mul]; omega

/-- the cells of a value's elements, read -/
theorem sl_cells {es : List (List PV)} {b o sz s : Nat} {f : Nat → Nat → Value} (hs0 : 0 < s) (hsz : sized s es = true) (h3 : ∀ (i : Nat) e, es[i]? = some e → e.length = sz)
    (h4 : ∀ (i j : Nat) e c, es[i]? = some e → e[j]? = some c → cellOk c = true ∧ F b (o + i * sz + j) ∧ w.cell? ⟨b, o + i * sz + j, none⟩ = some (f i j))
    (h5 : ∀ (i j : Nat) e c, es[i]? = some e → e[j]? = some c → VR w F noMap c (f i j)) :
    ∃ ys, VL w F M es.flatten ys ∧ ys.length = es.length * s ∧ ∀ (j : Nat) v, ys[j]? = some v → w.cell? ⟨b, o + j, none⟩ = some v := by
  have he := sized_spec hsz
  have hl := flatten_length he
  refine ⟨(List.range (es.length * s)).map fun k => f (k / s) (k % s), ⟨by simp [hl], ?_⟩, by simp, ?_⟩
  · intro k c y hc hy
    obtain ⟨e, h6, h7⟩ := flatten_get hs0 he k c hc
    have hk : k < es.length * s := by rw [← hl]; exact (List.getElem?_eq_some_iff.1 hc).1
    simp [hk] at hy
    subst hy
    exact ⟨(h4 _ _ _ _ h6 h7).1, (h5 _ _ _ _ h6 h7).mono (fun _ _ h => h) (fun _ _ _ => rfl) (fun _ _ h => by cases h)⟩
  · intro k v hv
    have hk : k < es.length * s := by have := (List.getElem?_eq_some_iff.1 hv).1; simpa using this
    simp [hk] at hv
    subst hv
    have hk' : k < es.flatten.length := by rw [hl]; exact hk
    obtain ⟨e, h6, h7⟩ := flatten_get hs0 he k _ (List.getElem?_eq_getElem hk')
    have h8 := (h4 _ _ _ _ h6 h7).2.2
    have hss : sz = s := by rw [← h3 _ _ h6]; exact he e (List.mem_of_getElem? h6)
    rw [hss] at h8
    rw [show o + k = o + k / s * s + k % s by have := Nat.div_add_mod k s; rw [Nat.mul_comm] at this; omega]
    exact h8

theorem firstCells_some {b o cc len n sz : Nat} {ys : List Value} (hl : ys.length = n * sz) (hc : ∀ (j : Nat) v, ys[j]? = some v → w.cell? ⟨b, o + j, none⟩ = some v) :
    (Builtin.firstCells sz n (.slice (some ⟨b, o, none⟩) len cc)).run P w = .ok ys.toArray w := by
  have := run_loadCells_list (P := P) w ⟨b, o, none⟩ ys (fun j v hj => by rw [add_spot]; exact hc j v hj)
  rw [hl] at this
  simpa [Builtin.firstCells] using this

/-- the source of an append or a copy -/
theorem src_sound (hs : HS hp w F M) {sz n : Nat} (h0 : 0 < sz) {x : PV} {v : Value} {cs : List PV} (hx : VR w F M x v) (e : srcCells hp sz x = some (n, cs)) :
    ∃ ys, VL w F M cs ys ∧ cs.length = n * sz ∧ (∃ a c, v = .slice a n c) ∧ ∀ m, m ≤ n → ∀ {w' : World}, w'.heap = w.heap → (Builtin.firstCells sz m v).run P w' = .ok (ys.take (m * sz)).toArray w' := by
  unfold srcCells at e
  split at e
  · cases hx; cases e
    refine ⟨[], VL.nil, by simp, ⟨none, 0, rfl⟩, fun m hm w' _ => ?_⟩
    simp [Builtin.firstCells]
  · rename_i es ex
    cases hx with
    | sl h1 h2 h3 h4 h5 =>
      rename_i b o cap sz' f
      cases hz : sized sz es with
      | false => simp [hz] at e
      | true =>
        simp only [hz] at e; cases e
        obtain ⟨ys, g1, g2, g3⟩ := sl_cells (M := M) h0 hz h3 h4 h5
        refine ⟨ys, g1, by rw [← g1.1]; exact g2, ⟨_, _, rfl⟩, fun m hm w' hw' => ?_⟩
        refine firstCells_some ?_ ?_
        · rw [List.length_take, g2]; exact Nat.min_eq_left (Nat.mul_le_mul_right _ hm)
        · intro j y hy
          rw [List.getElem?_take] at hy
          split at hy
          · rw [World.cell?_of_block (w := w) (w' := w') (by rw [hw'])]; exact g3 j y hy
          · cases hy
  · rename_i id off len cap rs
    cases hx with
    | row hm h0' h1 h2 h3 =>
      rename_i cap' p
      cases hb : Nat.beq rs sz with
      | false => simp [hb] at e
      | true =>
        simp only [hb] at e
        cases hg : hp.get id with
        | none => simp [hg] at e
        | some b =>
          simp only [hg] at e
          cases hc : cut b.cells off (len * sz) with
          | none => simp [hc] at e
          | some l =>
            simp only [hc] at e; cases e
            obtain ⟨ys, g1, g2, g3⟩ := hs.read hg hm hc
            refine ⟨ys, g1, by rw [← g1.1]; exact g2, ⟨_, _, rfl⟩, fun m hm' w' hw' => ?_⟩
            refine firstCells_some ?_ ?_
            · rw [List.length_take, g2]; exact Nat.min_eq_left (Nat.mul_le_mul_right _ hm')
            · intro j y hy
              rw [List.getElem?_take] at hy
              split at hy
              · rw [World.cell?_of_block (w := w) (w' := w') (by rw [hw'])]; exact g3 j y hy
              · cases hy
  · cases e

/-- what is appended: a slice's or a text's elements, or so many zeros -/
inductive Src (P : Program) (w : World) (u : TypeId) (info : TypeInfo) (z : Value) (x : Value) (n : Nat) (zs : List Value) : Prop where
  | of {ud : TypeDesc} : P.underlying u = some ud → (∀ k, ud ≠ .int k) → (∀ w' : World, (Builtin.lenOf x).run P w' = .ok n w') →
      (∀ w' : World, w'.heap = w.heap → (Builtin.firstCells info.size n x).run P w' = .ok zs.toArray w') → Src P w u info z x n zs
  | zero {k k' : IntKind} : P.underlying u = some (.int k) → x = .int k' (n : Int) → n * info.bytes ≤ 281474976710656 → n ≤ 281474976710656 → info.zero = some z → zs = (Builtin.zeroCells z.cells n).toList → Src P w u info z x n zs

theorem Src.heap {w' : World} {u : TypeId} {info : TypeInfo} {z x : Value} {n : Nat} {zs : List Value} (h : Src P w u info z x n zs) (e : w'.heap = w.heap) : Src P w' u info z x n zs := by
  cases h with
  | of h1 h2 h3 h4 => exact .of h1 h2 h3 fun w2 h => h4 w2 (h.trans e)
  | zero h1 h2 h3 h4 h5 h6 => exact .zero h1 h2 h3 h4 h5 h6

theorem wrap_small {n : Nat} (h : n ≤ 281474976710656) : IntKind.i64.wrap (n : Int) = n := by
  have h1 : ((n : Int) % 2 ^ IntKind.i64.bits) = n := Int.emod_eq_of_lt (by omega) (by simp [IntKind.bits]; omega)
  have h2 : ¬ ((n : Int) ≥ 2 ^ (IntKind.i64.bits - 1)) := by simp [IntKind.bits]; omega
  simp only [IntKind.wrap, h1]
  rw [if_neg]
  simp only [Bool.and_eq_true, decide_eq_true_eq, not_and]
  exact fun _ => h2

theorem matches_no {ud : TypeDesc} (h : ∀ k, ud ≠ .int k) : (match ud with | .int _ => true | _ => false) = false := by
  cases ud <;> first | rfl | exact absurd rfl (h _)

theorem zc_zero {z : Value} {n : Nat} {info : TypeInfo} (h : n * info.size = 0) (hz : z.cells.size = info.size) : Builtin.zeroCells z.cells n = #[] := by
  unfold Builtin.zeroCells
  rw [hz, h]; simp

/-- an append that makes a new row -/
theorem append_new (hs : HS hp w F M) {st e : TypeId} {info : TypeInfo} {z : Value} {sz : Nat} (hu : P.underlying st = some (.slice e)) (hi : P.info? e = some info) (hz : info.zero = some z) (hsz : info.size = sz)
    (hzl : z.cells.size = sz) (hb1 : 1 ≤ info.bytes) {s x : Value} {a : Option Addr} {len cap n : Nat} (hsv : s = .slice a len cap) {u : TypeId} (hgt : cap < len + n)
    (hlim : limited (len + n) info.bytes = true) {old new : List PV} {ys zs : List Value} (hold : VL w F M old ys) (hnew : VL w F M new zs) (hol : ys.length = len * sz) (hnl : zs.length = n * sz)
    (ho : ∀ {w' : World}, w'.heap = w.heap → (Builtin.firstCells sz len s).run P w' = .ok ys.toArray w') (hn : Src P w u info z x n zs)
    (frz : Nat) (ty : TypeId) : GoodV w F M ((Builtin.append_ #[st, u] ty #[s, x]).run P w) (.row hp.next 0 (len + n) (len + n) sz) (hp.new ⟨old ++ new, sz, true, frz, e⟩) := by
  subst hsv; subst hsz
  have hle : len + n ≤ grownCap w (len + n) cap e := by
    unfold grownCap
    simp only [Question.cut]
    exact Nat.le_add_right _ _
  generalize hnc : grownCap w (len + n) cap e = nc at hle
  have hw1 : w.drew.heap = w.heap := rfl
  have hs1 : HS hp w.drew F M := hs.heap hw1
  have hv1 : VL w.drew F M (old ++ new) (ys ++ zs) := (hold.append hnew).heap hw1
  let rest : List Value := (Builtin.zeroCells z.cells (nc - (len + n))).toList
  have hx1 : Ext w w.drew F F M M := Ext.heap hw1 rfl rfl rfl
  obtain ⟨h1, h2⟩ := hs1.new (old ++ new) (ys ++ zs) rest e info.size true frz hv1
  have hlen : (old ++ new).length = (len + n) * info.size := by
    rw [List.length_append, ← hold.1, ← hnew.1, hol, hnl, Nat.add_mul]
  have hrl : rest.length = (nc - (len + n)) * info.size := by
    simp [rest, Builtin.zeroCells, hzl]
  refine ⟨_, _, .slice (some ⟨w.heap.size, 0, none⟩) (len + n) nc, ?_, ?_, h1, hx1.trans h2⟩
  · have hbz : ¬ (info.bytes = 0) := by omega
    have hgt' : ¬ (len + n ≤ cap) := by omega
    have hlim' : ¬ (281474976710656 < Builtin.nextslicecap (len + n) cap * info.bytes) := by have := limited_spec hlim hgt; omega
    have hl63 : ¬ (9223372036854775807 < ((len : Int) + (n : Int))) := by
      have := limited_spec hlim hgt
      have h2 : (len + n) * 1 ≤ Builtin.nextslicecap (len + n) cap * info.bytes := Nat.mul_le_mul (le_nextslicecap hgt) hb1
      omega
    have hfo := ho (w' := w.drew) rfl
    cases hn with
    | of hud hni hlen hfc =>
      have hfn := hfc w.drew rfl
      have hm := matches_no hni
      simp [Builtin.append_, run_underlying hu, run_underlying hud, hm, sizeOf, typeInfo, zeroValue, hi, hz, hlen, hgt', hl63, hlim', Question.forced, hfn, hfo, _root_.Go.newRow, ← hnc, grownCap]
      subst hnc
      simp [rest, grownCap]
      congr 2
      apply Array.ext'
      simp
    | zero hud hx h3 h4 h5 h6 =>
      subst hx
      have hnb : ¬ (281474976710656 < (n : Int) * (info.bytes : Int)) := by
        have : ((n * info.bytes : Nat) : Int) ≤ 281474976710656 := Int.ofNat_le.mpr h3
        push_cast at this
        omega
      have hzs : (if n * info.size = 0 then (pure #[] : Sem (Array Value)) else do pure (Builtin.zeroCells (← zeroValue e).cells n)).run P w.drew = .ok zs.toArray w.drew := by
        subst h6
        by_cases hz0 : n * info.size = 0
        · rw [if_pos hz0, zc_zero hz0 hzl]; simp
        · rw [if_neg hz0]; simp [zeroValue, typeInfo, hi, hz]
      have hz0 : ¬ ((n : Int) < 0) := by omega
      simp [Builtin.append_, run_underlying hu, run_underlying hud, sizeOf, typeInfo, zeroValue, hi, hz, asInt, asIntOf, wrap_small h4, hz0, hnb, hgt', hl63, hlim', Question.forced, hfo, _root_.Go.newRow, hnc]
      have hzr : zs = (if n * info.size = 0 then [] else (Builtin.zeroCells z.cells n).toList) := by
        by_cases hq : n * info.size = 0
        · rw [if_pos hq, h6, zc_zero hq hzl]
        · rw [if_neg hq, h6]
      clear hzs
      rw [hzr]
      by_cases hq : n * info.size = 0
      · simp only [hq, if_true]
        subst hnc
        simp [rest, grownCap]
        congr 2
        apply Array.ext'
        simp
      · simp only [hq, if_false]
        subst hnc
        simp [rest, grownCap]
        congr 2
        apply Array.ext'
        simp
  · have := VR.row (w := w.drew.alloc (.cells ((ys ++ zs) ++ rest).toArray e (0, 0))) (F := F) (M := M.up hp.next ⟨w.drew.heap.size, 0, (old ++ new).length, ((ys ++ zs) ++ rest).length, info.size, true⟩)
      (id := hp.next) (off := 0) (len := len + n) (cap := len + n) (cap' := nc) (Mp.up_self _ _ _) rfl (Nat.le_refl _) (by simp only [hlen]; omega)
      (.inr ⟨rfl, by simp only [hlen]; omega, hle, by
        simp only [List.length_append, hol, hnl, hrl]
        have : (nc - (len + n)) * info.size + (len * info.size + n * info.size) = nc * info.size := by rw [← Nat.add_mul, ← Nat.add_mul]; congr 1; omega
        omega⟩)
    simpa using this
end
end Go.Ev
