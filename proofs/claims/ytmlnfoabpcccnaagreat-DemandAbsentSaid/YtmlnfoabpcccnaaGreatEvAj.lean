/- Calls: what the evaluator comes to, a call comes to. -/
import Derived.Test.YtmlnfoabpcccnaaGreatEvAi
import Derived.Laws.Externs
import Derived.Lib.Bytealg
set_option linter.all false
namespace Go.Ev
variable [Env]
section
variable {P : Program} {T : Types} {R : Type} {w : World} {F : Fz} {M : Mp}

/-- one result -/
def resultOf (tmps : Array Value) : ResultVar → Sem Value
  | .tmp t => pure (tmps.getD t undef)
  | .cell b t => do loadVar t (← asAddr (tmps.getD b undef))

theorem resVar_sound (hT : TOk P T) {st : St} {a : Act} (ht : TS st.tmps a w F M) (hs : HS st.hp w F M) {x : ResultVar} {p : PV} (e : resVar T st x = some p) :
    ∃ v, (resultOf a.tmps x).run P w = .ok v w ∧ VR w F M p v := by
  cases x with
  | tmp t => exact ⟨_, rfl, (ht t p e).2⟩
  | cell b t =>
    unfold resVar at e
    cases hb : Al.get st.tmps b with
    | none => simp [hb] at e
    | some q =>
      simp only [hb] at e
      have hv := (ht b q hb).2
      obtain ⟨y, h1, h2⟩ := loadAt_sound (P := P) hT hs hv e
      refine ⟨y, ?_, h2⟩
      have hp : ∃ ad, a.tmps.getD b undef = .pointer (some ad) := by
        generalize a.tmps.getD b undef = v at hv
        cases hv with
        | ptr hm => exact ⟨_, rfl⟩
        | ep h4 h5 => exact ⟨_, rfl⟩
        | _ => simp [loadAt] at e
      obtain ⟨ad, hp⟩ := hp
      rw [hp] at h1
      show ((do loadVar t (← asAddr (a.tmps.getD b undef)) : Sem Value)).run P w = _
      rw [hp]
      simpa [Instr.loadAt, Instr.sureAddr, asAddr] using h1

theorem resVars_sound (hT : TOk P T) {st : St} {a : Act} (ht : TS st.tmps a w F M) (hs : HS st.hp w F M) : ∀ {l : List ResultVar} {ps : List PV}, resVars T st l = some ps →
    ∃ vs : List Value, (l.mapM (resultOf a.tmps)).run P w = .ok vs w ∧ VRs w F M ps vs
  | [], ps, e => by cases e; exact ⟨[], rfl, rfl, fun i c y h => by simp at h⟩
  | x :: l, ps, e => by
    unfold resVars at e
    cases hx : resVar T st x with
    | none => simp [hx] at e
    | some p =>
      simp only [hx] at e
      cases hl : resVars T st l with
      | none => simp [hl] at e
      | some q =>
        simp only [hl] at e; cases e
        obtain ⟨v, h1, h2⟩ := resVar_sound (P := P) hT ht hs hx
        obtain ⟨vs, h3, h4⟩ := resVars_sound hT ht hs hl
        refine ⟨v :: vs, ?_, by simp [h4.1], ?_⟩
        · rw [List.mapM_cons]
          simp only [Sem.run_bind, h1, Result.andThen_ok, h3, Sem.run_pure]
        · intro i c y hc hy
          cases i with
          | zero => simp at hc hy; subst hc; subst hy; exact h2
          | succ i => exact h4.2 i c y (by simpa using hc) (by simpa using hy)

theorem resOf_sound (hT : TOk P T) {st : St} {a : Act} (ht : TS st.tmps a w F M) (hs : HS st.hp w F M) {fn : Func} {p : PV} (e : resOf T fn st = some p) :
    ∃ v, (results fn a.tmps).run P w = .ok v w ∧ VR w F M p v := by
  unfold resOf at e
  cases hr : resVars T st fn.results.toList with
  | none => simp [hr] at e
  | some ps =>
    obtain ⟨vs, h1, h2⟩ := resVars_sound (P := P) hT ht hs hr
    have hrun : (results fn a.tmps).run P w = .ok (if h : vs.toArray.size = 1 then vs.toArray[0] else .tuple vs.toArray) w := by
      have hm : results fn a.tmps = (do let vs ← fn.results.mapM (resultOf a.tmps); pure (if h : vs.size = 1 then vs[0] else .tuple vs)) := rfl
      rw [hm, Array.mapM_eq_mapM_toList]
      simp only [Sem.run_bind, Sem.run_map]
      simp only [h1, Result.andThen_ok]
      rfl
    refine ⟨_, hrun, ?_⟩
    rw [hr] at e
    split at e
    · rename_i q heq
      cases heq; cases e
      obtain ⟨v, rfl⟩ := List.length_eq_one_iff.1 h2.1
      exact h2.2 0 p v rfl rfl
    · rename_i heq
      cases heq; cases e
      have : vs = [] := List.length_eq_zero_iff.1 h2.1
      subst this
      exact .un
    · rename_i l h3 h4 heq
      cases heq; cases e
      have : ¬ (vs.toArray.size = 1) := by
        simp only [List.size_toArray, h2.1]
        intro h
        obtain ⟨x, hx⟩ := List.length_eq_one_iff.1 h
        exact h3 x (by rw [hx])
      rw [dif_neg this]
      exact .tup h2.1 h2.2
    · cases e

theorem initT_get : ∀ (l : List PV) (i t : Nat), Al.get (initT i l) t = if i ≤ t then l[t - i]? else none
  | [], i, t => by simp [initT, Al.get]
  | p :: l, i, t => by
    unfold initT
    rw [Al.get_cons, initT_get l (i + 1) t]
    by_cases h : i = t
    · subst h; simp
    · rw [if_neg h]
      by_cases h2 : i ≤ t
      · rw [if_pos (by omega), if_pos h2, show t - i = (t - (i + 1)) + 1 by omega]; simp
      · rw [if_neg (by omega), if_neg h2]

theorem initT_TS {l : List PV} {args : Array Value} {n : Nat} (hv : VRs w F M l args.toList) : TS (initT 0 l) { tmps := args ++ Array.replicate (n - args.size) undef, defers := [] } w F M := by
  intro t p hp
  rw [initT_get] at hp
  simp only [Nat.zero_le, if_true, Nat.sub_zero] at hp
  have hlt := (List.getElem?_eq_some_iff.1 hp).1
  have hsz : args.size = l.length := by have := hv.1; simpa using this
  have hlt2 : t < args.size := by omega
  refine ⟨by simp; omega, hv.2 t p _ hp ?_⟩
  simp [hlt2]
  rw [Array.getElem?_append_left hlt2]
  simp [hlt2]

/-- what is shown of the evaluator at one fuel -/
def SoundRun (P : Program) (T : Types) (rc : RC R) : Prop := ∀ (fi : FI) (c : Code), codeOk fi c = true → ∀ (st : St) (ex : Ex) (st' : St), (∀ k, rc fi c st k = k ex st') →
  ∀ (a : Act) (w : World) (F : Fz) (M : Mp) (Q : Exit → Act → World → Prop), TS st.tmps a w F M → HS st.hp w F M → a.tmps.size = fi.fn.ntmps → Behind fi.fn.ntmps st' w F M a (Q ex.toExit) → c.wp P Q a w

theorem bodyF_sound' (r : R) (hT : TOk P T) {rc : RC R} (hu : UniRC rc) (hr : SoundRun P T rc) {f : Nat} {fi : FI} (hf : P.funcs[f]? = some fi.fn ∧ (fi.fn.name == "runtime.NumGoroutine") = false ∧ ∀ c, fi.fn.body = some c → codeOk fi c = true) {l : List PV} {hp h : Hp} {p : PV}
    (e : ∀ k, bodyF T fi rc l hp k = k p h) : Enters P f ∧ ∀ (w : World) (F : Fz) (M : Mp) (args : Array Value), HS hp w F M → VRs w F M l args.toList → Calls P f args w (CallPost w F M p h) := by
  obtain ⟨h1, h2, h3⟩ := hf
  unfold bodyF at e
  cases hb : fi.fn.body with
  | none =>
    simp only [hb] at e
    have := e fun _ _ => some r
    cases this
  | some c =>
    simp only [hb] at e
    refine ⟨⟨fi.fn, h1, h2, by rw [hb]; rfl⟩, ?_⟩
    cases hl : Nat.ble l.length fi.fn.ntmps with
    | false =>
      simp only [hl] at e
      have := e fun _ _ => some r
      cases this
    | true =>
      simp only [hl] at e
      have hl := Nat.le_of_ble_eq_true hl
      intro w F M args hs hv
      have hsz : args.size = l.length := by have := hv.1; simpa using this
      rcases hu fi c ⟨initT 0 l, hp⟩ with g | ⟨ex, st', g⟩
      · have := e fun _ _ => some r
        rw [g] at this; cases this
      · have e' : ∀ k : PV → Hp → Option R, endK T fi.fn k ex st' = k p h := fun k => by rw [← e k, g]
        have hres : ex.toExit ≠ .normal → ex.toExit ≠ .ret → False := by
          intro q1 q2
          cases ex with
          | normal => exact q1 rfl
          | ret => exact q2 rfl
          | exit i =>
            have := e' fun _ _ => some r
            cases this
        have hrs : resOf T fi.fn st' = some p ∧ st'.hp = h := by
          cases ex with
          | exit i => exact (hres (by simp [Ex.toExit]) (by simp [Ex.toExit])).elim
          | normal =>
            cases hro : resOf T fi.fn st' with
            | none =>
              have := e' fun _ _ => some r
              simp [endK, hro] at this
            | some q =>
              have e2 : ∀ k : PV → Hp → Option R, k q st'.hp = k p h := fun k => by rw [← e' k]; simp [endK, hro]
              obtain ⟨rfl, rfl⟩ := Uni2.eq_of r e2
              exact ⟨rfl, rfl⟩
          | ret =>
            cases hro : resOf T fi.fn st' with
            | none =>
              have := e' fun _ _ => some r
              simp [endK, hro] at this
            | some q =>
              have e2 : ∀ k : PV → Hp → Option R, k q st'.hp = k p h := fun k => by rw [← e' k]; simp [endK, hro]
              obtain ⟨rfl, rfl⟩ := Uni2.eq_of r e2
              exact ⟨rfl, rfl⟩
        refine calls_of_wp h1 hb (hr fi c (h3 c hb) _ ex st' g _ w F M _ (initT_TS hv) hs (by simp; omega) ?_)
        intro w' F' M' a' k1 k2 k3 k4 k5
        obtain ⟨v, k6, k7⟩ := resOf_sound (P := P) hT k1 k2 hrs.1
        have hfin : a'.defers = [] ∧ ∃ v, (results fi.fn a'.tmps).run P w' = .ok v w' ∧ CallPost w F M p h (.returned v) w' := ⟨k5, v, k6, v, F', M', rfl, k7, hrs.2 ▸ k2, k3⟩
        cases ex with
        | normal => exact hfin
        | ret => exact hfin
        | exit i => exact (hres (by simp [Ex.toExit]) (by simp [Ex.toExit])).elim

theorem HS.empty {w : World} {F : Fz} (n : Nat) (hF : ∀ b o, F b o → b < w.heap.size) : HS ⟨[], n, []⟩ w F noMap :=
  ⟨fun id b p h _ => by simp [Hp.get, Al.get] at h, fun i j bi bj p q h _ _ _ _ => by simp [Hp.get, Al.get] at h, fun id p h => (by cases h), fun id b h => by simp [Hp.get, Al.get] at h, hF, HM.nil⟩

/-- the caller's blocks, behind a call that knows nothing of them -/
theorem HS.behind {hp : Hp} {w w' : World} {F F' : Fz} (hs : HS hp w F M) (hx : Ext w w' F F' noMap noMap) (hF : ∀ b o, F' b o → b < w'.heap.size) : HS hp w' F' M ∧ Ext w w' F F' M M := by
  have hkeep : ∀ b, b < w.heap.size → w'.heap[b]? = w.heap[b]? := fun b hb => hx.keep b hb fun i p h => (by cases h)
  refine ⟨⟨?_, hs.inj, fun id p h => ⟨(hs.lt id p h).1, Nat.lt_of_lt_of_le (hs.lt id p h).2 hx.size⟩, hs.fresh, hF, hs.ms.mono (Nat.le_refl _) (fun b hb => hkeep b hb.lt) hx.mF hx.cell (fun _ _ h => h) fun _ _ _ h => h⟩, ⟨hx.os, hx.tape, hx.output, hx.size, fun b hb _ => hkeep b hb, hx.cell, fun _ _ h => h, hx.mF, fun _ _ h => .inl h, ?_⟩⟩
  · intro id b p hg hm
    have br := hs.br id b p hg hm
    obtain ⟨c, e, h1, h2, h3, h4⟩ := br.blk
    refine ⟨br.n, br.sz, br.loose, ⟨c, e, by rw [hkeep _ (hs.lt id p hm).2]; exact h1, h2, h3, fun o x hx' => ?_⟩, ?_, br.ty.1, by rw [hkeep _ (hs.lt id p hm).2]; exact br.ty.2⟩
    · obtain ⟨k1, y, k2, k3⟩ := h4 o x hx'
      exact ⟨k1, y, k2, k3.mono hx.mF hx.cell fun _ _ h => h⟩
    · intro o ho hf
      rcases hx.newF _ _ hf with h | h | ⟨j, q, h, _⟩
      · exact br.nf o ho h
      · have := (hs.lt id p hm).2; omega
      · cases h
  · intro b o h
    rcases hx.newF b o h with h | h | ⟨j, q, h, _⟩
    · exact .inl h
    · exact .inr (.inl h)
    · cases h

theorem bodyF_sound (r : R) (hT : TOk P T) {FT : Fns} (hF : FTOk P FT) {rc : RC R} (hu : UniRC rc) (hr : SoundRun P T rc) {f : Nat} {fi : FI} (hf : FT.get f = some fi) {l : List PV} {hp h : Hp} {p : PV}
    (e : ∀ k, bodyF T fi rc l hp k = k p h) : Enters P f ∧ ∀ (w : World) (F : Fz) (M : Mp) (args : Array Value), HS hp w F M → VRs w F M l args.toList → Calls P f args w (CallPost w F M p h) :=
  bodyF_sound' r hT hu hr ⟨(hF f fi hf).1, (hF f fi hf).2.1, (hF f fi hf).2.2.1⟩ e

theorem Calls.mono_of {f : FuncId} {args : Array Value} {w : World} {K K' : Ending → World → Prop} (h : Calls P f args w K) (hk : ∀ e w', K e w' → K' e w') : Calls P f args w K' := Calls.mono h hk

theorem ownF_sound (r : R) (hT : TOk P T) {FT : Fns} (hF : FTOk P FT) {rc : RC R} (hu : UniRC rc) (hr : SoundRun P T rc) {f : Nat} {fi : FI} (hf : FT.get f = some fi) {l : List PV} {hp h : Hp} {p : PV}
    (e : ∀ k, ownF T fi rc l hp k = k p h) : Enters P f ∧ ∀ (w : World) (F : Fz) (M : Mp) (args : Array Value), HS hp w F M → VRs w F M l args.toList → Calls P f args w (CallPost w F M p h) := by
  unfold ownF at e
  cases hd : fi.frz with
  | false =>
    simp only [hd] at e
    exact bodyF_sound r hT hF hu hr hf e
  | true =>
    simp only [hd] at e
    rcases bodyF_uni (T := T) hu fi l hp with g | ⟨q, h', g⟩
    · have g' : ∀ k, bodyF T fi rc l hp k = none := g
      have := e fun _ _ => some r
      rw [g'] at this; cases this
    · have g' : ∀ k, bodyF T fi rc l hp k = k q h' := g
      have e' : ∀ k : PV → Hp → Option R, frzK k q h' = k p h := fun k => by rw [← e k, g']
      unfold frzK at e'
      cases hq : freeze deepN h' q with
      | none =>
        simp only [hq] at e'
        have := e' fun _ _ => some r
        cases this
      | some qh =>
        simp only [hq] at e'
        obtain ⟨rfl, rfl⟩ := Uni2.eq_of r e'
        obtain ⟨h1, h2⟩ := bodyF_sound r hT hF hu hr hf g'
        refine ⟨h1, fun w F M args hs hv => ?_⟩
        refine Calls.mono (h2 w F M args hs hv) ?_
        rintro e w' ⟨v, F', M', rfl, k1, k2, k3⟩
        obtain ⟨F2, m1, m2, m3⟩ := freeze_sound deepN h' q qh.1 qh.2 hq F' v k2 k1
        exact ⟨v, F2, M', rfl, m3.mono (fun _ _ h => h) (fun _ _ _ => rfl) (fun _ _ h => by cases h), m1, k3.trans m2⟩

theorem callO_sound (r : R) {O : Orc} (hO : OrcOk P O) {f : Nat} {l : List PV} {hp h : Hp} {p : PV} (e : ∀ k : PV → Hp → Option R, callO O f k (freezeL deepN hp l) = k p h) :
    Enters P f ∧ ∀ (w : World) (F : Fz) (M : Mp) (args : Array Value), HS hp w F M → VRs w F M l args.toList → Calls P f args w (CallPost w F M p h) := by
  unfold callO at e
  cases hz : freezeL deepN hp l with
  | none =>
    simp only [hz] at e
    have := e fun _ _ => some r
    cases this
  | some dh =>
    simp only [hz] at e
    cases ho : O f dh.1 with
    | none =>
      simp only [ho] at e
      have := e fun _ _ => some r
      cases this
    | some q =>
      simp only [ho] at e
      obtain ⟨rfl, rfl⟩ := Uni2.eq_of r e
      have hk := hO f dh.1 q ho
      unfold KnownX at hk
      rw [freezeL_unKey hz] at hk
      obtain ⟨h1, h2⟩ := hk
      refine ⟨h1, fun w F M args hs hv => ?_⟩
      obtain ⟨F1, g1, g2, g3, _⟩ := freezeL_sound deepN hp l dh.1 dh.2 hz F args.toList hs hv
      refine Calls.mono (h2 w F1 args g1.fw g3) ?_
      rintro e w' ⟨v, F', rfl, k1, k2, k3⟩
      obtain ⟨k4, k5⟩ := g1.behind k3 k2
      exact ⟨v, F', M, rfl, k1.mono (fun _ _ h => h) (fun _ _ _ => rfl) (fun _ _ h => by cases h), k4, g2.trans k5⟩

theorem up_some {p q : Pl} {i : Nat} (h : (noMap.up 0 p) i = some q) : i = 0 ∧ q = p := by
  unfold Mp.up at h
  split at h
  · rename_i e; cases h; exact ⟨e, rfl⟩
  · cases h

/-- one block, looked at alone -/
theorem HS.alone {hp : Hp} {w : World} {F : Fz} {id : Nat} {b : Blk} {p : Pl} (hs : HS hp w F M) (hg : hp.get id = some b) (hm : M id = some p) (hk : stOk b = true) :
    HS ⟨[(0, ⟨b.cells, b.cells.length, false, 0, b.ty⟩)], 1, []⟩ w F (noMap.up 0 p) := by
  have hb := hs.br id b p hg hm
  unfold stOk at hk
  simp only [Bool.and_eq_true, Bool.not_eq_true'] at hk
  obtain ⟨h1, h2, h3, h4⟩ := hk
  have h1 := Nat.eq_of_beq_eq_true h1
  have h3 := Nat.eq_of_beq_eq_true h3
  have hget : ∀ i b', Hp.get ⟨[(0, ⟨b.cells, b.cells.length, false, 0, b.ty⟩)], 1, []⟩ i = some b' → i = 0 ∧ b' = ⟨b.cells, b.cells.length, false, 0, b.ty⟩ := by
    intro i b' h
    unfold Hp.get at h
    rw [Al.get_cons] at h
    split at h
    · rename_i e; cases h; exact ⟨e.symm, rfl⟩
    · cases h
  refine ⟨fun i b' q h hM => ?_, fun i j bi bj q q' hi hj _ _ _ => ((hget i bi hi).1.trans (hget j bj hj).1.symm), fun i q h => ?_, fun i b' h => ?_, hs.fw, HM.nil⟩
  · obtain ⟨rfl, rfl⟩ := hget i b' h
    obtain ⟨_, rfl⟩ := up_some hM
    obtain ⟨c, e, k1, k2, k3, k4⟩ := hb.blk
    refine ⟨hb.n, hb.sz.trans h1, hb.loose.trans h2, ⟨c, e, k1, k2, k3, fun o x hx => ?_⟩, fun o ho => hb.nf o (by rw [h3]; exact ho), fun _ => hb.ty.1 h2, hb.ty.2⟩
    obtain ⟨g1, y, g2, g3⟩ := k4 o x hx
    have hd : isData 9 x = true := by
      have := List.all_eq_true.1 h4 x (List.mem_of_getElem? hx)
      simp only [Bool.and_eq_true] at this
      exact this.1
    exact ⟨g1, y, g2, VR.data 9 hd g3⟩
  · obtain ⟨rfl, rfl⟩ := up_some h
    exact ⟨Nat.one_pos, (hs.lt id q hm).2⟩
  · obtain ⟨rfl, _⟩ := hget i b' h
    exact Nat.one_pos

/-- the heap behind a call that was told of one block -/
theorem HS.back {hp : Hp} {w w' : World} {F F' : Fz} {id : Nat} {b : Blk} {p : Pl} {cs : List PV} (hs : HS hp w F M) (hg : hp.get id = some b) (hm : M id = some p) (hk : stOk b = true) (hc : stCells cs = true)
    (hb' : HS ⟨[(0, ⟨cs, b.cells.length, false, 0, b.ty⟩)], 1, []⟩ w' F' (noMap.up 0 p)) (hx : Ext w w' F F' (noMap.up 0 p) (noMap.up 0 p)) :
    HS (hp.put id ⟨cs, b.sz, false, 0, b.ty⟩) w' F' M ∧ Ext w w' F F' M M := by
  have hb := hs.br id b p hg hm
  unfold stOk at hk
  simp only [Bool.and_eq_true, Bool.not_eq_true'] at hk
  obtain ⟨h1, h2, h3, h4⟩ := hk
  have h1 := Nat.eq_of_beq_eq_true h1
  have hne : ∀ {b0 : Nat}, p.b ≠ b0 → ∀ i q, (noMap.up 0 p) i = some q → q.b ≠ b0 := by
    intro b0 hb0 i q hq
    obtain ⟨_, rfl⟩ := up_some hq
    exact hb0
  have hget : ∀ i b', (hp.put id ⟨cs, b.sz, false, 0, b.ty⟩).get i = some b' → (i = id ∧ b' = ⟨cs, b.sz, false, 0, b.ty⟩) ∨ (i ≠ id ∧ hp.get i = some b') := by
    intro i b' h
    unfold Hp.get Hp.put at h
    simp only [] at h
    rw [Al.get_set] at h
    split at h
    · rename_i e
      have hg' : Al.get hp.blks id = some b := hg
      rw [hg'] at h
      cases h
      exact .inl ⟨e, rfl⟩
    · rename_i e; exact .inr ⟨e, h⟩
  have hold : ∀ i b', (hp.put id ⟨cs, b.sz, false, 0, b.ty⟩).get i = some b' → ∃ b0, hp.get i = some b0 := by
    intro i b' h
    rcases hget i b' h with ⟨rfl, _⟩ | ⟨_, h⟩
    · exact ⟨b, hg⟩
    · exact ⟨b', h⟩
  refine ⟨⟨fun i bb pp hgi hmi => ?_, fun i j bi bj q q' hi hj hqi hqj e => ?_, fun i q h => ⟨(hs.lt i q h).1, Nat.lt_of_lt_of_le (hs.lt i q h).2 hx.size⟩, fun i b' h => ?_, hb'.fw, ?_⟩, ⟨hx.os, hx.tape, hx.output, hx.size, fun b0 hb0 hn => hx.keep b0 hb0 (hne (hn id p hm)), hx.cell, fun _ _ h => h, hx.mF, fun _ _ h => .inl h, ?_⟩⟩
  · rcases hget i bb hgi with ⟨rfl, rfl⟩ | ⟨hi, hgi⟩
    · rw [hm] at hmi
      cases hmi
      have hn := hb'.br 0 _ p rfl rfl
      obtain ⟨c, e, k1, k2, k3, k4⟩ := hn.blk
      refine ⟨hn.n, hn.sz.trans h1.symm, hn.loose, ⟨c, e, k1, k2, k3, fun o x hx' => ?_⟩, hn.nf, hn.ty.1, hn.ty.2⟩
      obtain ⟨g1, y, g2, g3⟩ := k4 o x hx'
      have hd : isData 9 x = true := by
        have := List.all_eq_true.1 hc x (List.mem_of_getElem? hx')
        simp only [Bool.and_eq_true] at this
        exact this.1
      exact ⟨g1, y, g2, VR.data 9 hd g3⟩
    · have br := hs.br i bb pp hgi hmi
      have hpne : p.b ≠ pp.b := fun e => hi (hs.inj i id bb b pp p hgi hg hmi hm e.symm)
      have hkeep : w'.heap[pp.b]? = w.heap[pp.b]? := hx.keep _ (hs.lt i pp hmi).2 (hne hpne)
      obtain ⟨c, e, k1, k2, k3, k4⟩ := br.blk
      refine ⟨br.n, br.sz, br.loose, ⟨c, e, by rw [hkeep]; exact k1, k2, k3, fun o x hx' => ?_⟩, ?_, br.ty.1, by rw [hkeep]; exact br.ty.2⟩
      · obtain ⟨g1, y, g2, g3⟩ := k4 o x hx'
        exact ⟨g1, y, g2, g3.mono hx.mF hx.cell fun _ _ h => h⟩
      · intro o ho hf
        rcases hx.newF _ _ hf with h | h | ⟨j, q, h, h'⟩
        · exact br.nf o ho h
        · have := (hs.lt i pp hmi).2; omega
        · exact hne hpne j q h h'
  · obtain ⟨b1, g1⟩ := hold i bi hi
    obtain ⟨b2, g2⟩ := hold j bj hj
    exact hs.inj i j b1 b2 q q' g1 g2 hqi hqj e
  · obtain ⟨b1, g1⟩ := hold i b' h
    exact hs.fresh i b1 g1
  · refine hs.ms.mono (Nat.le_refl _) (fun b0 hb0 => hx.keep b0 hb0.lt (hne ?_)) hx.mF hx.cell (fun _ _ h => h) fun _ _ _ h => h
    intro e
    subst e
    obtain ⟨c, e, k1, _⟩ := hb.blk
    exact notMap k1 hb0
  · intro b0 o h
    rcases hx.newF b0 o h with h | h | ⟨j, q, h, h'⟩
    · exact .inl h
    · exact .inr (.inl h)
    · obtain ⟨_, rfl⟩ := up_some h
      exact .inr (.inr ⟨id, q, hm, h'⟩)

theorem startS_one {ty : Nat} {cs : List PV} (h : stCells cs = true) : startS ty cs = ⟨[(0, ⟨cs, cs.length, false, 0, ty⟩)], 1, []⟩ := by
  unfold startS
  split
  · rename_i ty1 cs1 r
    have := List.all_eq_true.1 h _ (List.mem_cons_self ..)
    simp [cellOk] at this
  · rfl

theorem headPtr_some {l r : List PV} {j : Nat} (h : headPtr l = some (j, r)) : l = .ptr j 0 :: r := by
  unfold headPtr at h
  split at h
  · cases h; rfl
  · cases h

theorem up2_some {p p1 q : Pl} {i : Nat} (h : ((noMap.up 0 p).up 1 p1) i = some q) : (i = 0 ∧ q = p) ∨ (i = 1 ∧ q = p1) := by
  unfold Mp.up at h
  split at h
  · rename_i e; cases h; exact .inr ⟨e, rfl⟩
  · split at h
    · rename_i e; cases h; exact .inl ⟨e, rfl⟩
    · cases h

theorem st_data {cs : List PV} (h : stCells cs = true) {o : Nat} {x : PV} (hx : cs[o]? = some x) : isData 9 x = true ∧ cellOk x = true := by
  have := List.all_eq_true.1 h x (List.mem_of_getElem? hx)
  simpa only [Bool.and_eq_true] using this

/-- the two blocks' heap -/
abbrev hp2 (ty ty1 : Nat) (cs1 r : List PV) : Hp := ⟨[(1, ⟨cs1, cs1.length, false, 0, ty1⟩), (0, ⟨.ptr 1 0 :: r, r.length + 1, false, 0, ty⟩)], 2, []⟩

theorem hp2_get {ty ty1 : Nat} {cs1 r : List PV} {i : Nat} {b' : Blk} (h : (hp2 ty ty1 cs1 r).get i = some b') :
    (i = 0 ∧ b' = ⟨.ptr 1 0 :: r, r.length + 1, false, 0, ty⟩) ∨ (i = 1 ∧ b' = ⟨cs1, cs1.length, false, 0, ty1⟩) := by
  unfold Hp.get at h
  rw [Al.get_cons] at h
  split at h
  · rename_i e; cases h; exact .inr ⟨e.symm, rfl⟩
  · rw [Al.get_cons] at h
    split at h
    · rename_i e; cases h; exact .inl ⟨e.symm, rfl⟩
    · cases h

/-- two blocks, looked at alone -/
theorem HS.alone2 {hp : Hp} {w : World} {F : Fz} {id j : Nat} {b b1 : Blk} {p p1 : Pl} {r : List PV} (hs : HS hp w F M) (hg : hp.get id = some b) (hm : M id = some p) (hb : b.cells = .ptr j 0 :: r) (hg1 : hp.get j = some b1) (hm1 : M j = some p1)
    (hne : j ≠ id) (hk : wOk b r = true) (hk1 : stOk b1 = true) : HS (hp2 b.ty b1.ty b1.cells r) w F ((noMap.up 0 p).up 1 p1) := by
  have h0 := hs.br id b p hg hm
  have h1 := hs.br j b1 p1 hg1 hm1
  have hpp : p.b ≠ p1.b := fun e => hne (hs.inj id j b b1 p p1 hg hg1 hm hm1 e).symm
  unfold wOk at hk
  unfold stOk at hk1
  simp only [Bool.and_eq_true, Bool.not_eq_true'] at hk hk1
  obtain ⟨a1, a2, a3, a4⟩ := hk
  obtain ⟨c1, c2, c3, c4⟩ := hk1
  have a1 := Nat.eq_of_beq_eq_true a1
  have a3 := Nat.eq_of_beq_eq_true a3
  have c1 := Nat.eq_of_beq_eq_true c1
  have c3 := Nat.eq_of_beq_eq_true c3
  have hlen : b.cells.length = r.length + 1 := by rw [hb]; rfl
  refine ⟨fun i b' q h hM => ?_, fun i k bi bk q q' hi hk hq hq' e => ?_, fun i q h => ?_, fun i b' h => ?_, hs.fw, HM.nil⟩
  · rcases hp2_get h with ⟨rfl, rfl⟩ | ⟨rfl, rfl⟩
    · rcases up2_some hM with ⟨_, rfl⟩ | ⟨e, _⟩
      · obtain ⟨c, e, k1, k2, k3, k4⟩ := h0.blk
        refine ⟨by rw [h0.n, hlen]; rfl, h0.sz.trans (a1.trans hlen), h0.loose.trans a2, ⟨c, e, k1, k2, k3, fun o x hx => ?_⟩, fun o ho => h0.nf o (by rw [a3]; exact ho), fun _ => h0.ty.1 a2, h0.ty.2⟩
        cases o with
        | zero =>
          simp at hx
          subst hx
          obtain ⟨_, y, g2, g3⟩ := k4 0 (.ptr j 0) (by rw [hb]; rfl)
          refine ⟨rfl, y, g2, ?_⟩
          cases g3 with
          | ptr hj =>
            rw [hm1] at hj
            cases hj
            exact .ptr rfl
        | succ o =>
          have hx' : r[o]? = some x := by simpa using hx
          obtain ⟨g1, y, g2, g3⟩ := k4 (o + 1) x (by rw [hb]; exact hx)
          exact ⟨g1, y, g2, VR.data 9 (st_data a4 hx').1 g3⟩
      · cases e
    · rcases up2_some hM with ⟨e, _⟩ | ⟨_, rfl⟩
      · cases e
      · obtain ⟨c, e, k1, k2, k3, k4⟩ := h1.blk
        refine ⟨h1.n, h1.sz.trans c1, h1.loose.trans c2, ⟨c, e, k1, k2, k3, fun o x hx => ?_⟩, fun o ho => h1.nf o (by rw [c3]; exact ho), fun _ => h1.ty.1 c2, h1.ty.2⟩
        obtain ⟨g1, y, g2, g3⟩ := k4 o x hx
        exact ⟨g1, y, g2, VR.data 9 (st_data c4 hx).1 g3⟩
  · rcases up2_some hq with ⟨rfl, rfl⟩ | ⟨rfl, rfl⟩ <;> rcases up2_some hq' with ⟨rfl, rfl⟩ | ⟨rfl, rfl⟩
    · rfl
    · exact (hpp e).elim
    · exact (hpp e.symm).elim
    · rfl
  · rcases up2_some h with ⟨rfl, rfl⟩ | ⟨rfl, rfl⟩
    · exact ⟨Nat.two_pos, (hs.lt id q hm).2⟩
    · exact ⟨Nat.one_lt_two, (hs.lt j q hm1).2⟩
  · rcases hp2_get h with ⟨rfl, _⟩ | ⟨rfl, _⟩
    · exact Nat.two_pos
    · exact Nat.one_lt_two

/-- the heap behind a call that was told of two blocks -/
theorem HS.back2 {hp : Hp} {w w' : World} {F F' : Fz} {id j : Nat} {b b1 : Blk} {p p1 : Pl} {r r' cs1 : List PV} (hs : HS hp w F M) (hg : hp.get id = some b) (hm : M id = some p) (hb : b.cells = .ptr j 0 :: r) (hg1 : hp.get j = some b1) (hm1 : M j = some p1)
    (hne : j ≠ id) (hk : wOk b r = true) (hk1 : stOk b1 = true) (hl : r'.length + 1 = b.cells.length) (hl1 : cs1.length = b1.cells.length) (hc : stCells r' = true) (hc1 : stCells cs1 = true)
    (hb' : HS (hp2 b.ty b1.ty cs1 r') w' F' ((noMap.up 0 p).up 1 p1)) (hx : Ext w w' F F' ((noMap.up 0 p).up 1 p1) ((noMap.up 0 p).up 1 p1)) :
    HS ((hp.put id ⟨.ptr j 0 :: r', b.sz, false, 0, b.ty⟩).put j ⟨cs1, b1.sz, false, 0, b1.ty⟩) w' F' M ∧ Ext w w' F F' M M := by
  unfold wOk at hk
  unfold stOk at hk1
  simp only [Bool.and_eq_true, Bool.not_eq_true'] at hk hk1
  obtain ⟨a1, a2, a3, a4⟩ := hk
  obtain ⟨c1, c2, c3, c4⟩ := hk1
  have a1 := Nat.eq_of_beq_eq_true a1
  have c1 := Nat.eq_of_beq_eq_true c1
  have h0 := hs.br id b p hg hm
  have h1 := hs.br j b1 p1 hg1 hm1
  have hnb : ∀ {b0 : Nat}, p.b ≠ b0 → p1.b ≠ b0 → ∀ i q, ((noMap.up 0 p).up 1 p1) i = some q → q.b ≠ b0 := by
    intro b0 hb0 hb1 i q hq
    rcases up2_some hq with ⟨_, rfl⟩ | ⟨_, rfl⟩
    · exact hb0
    · exact hb1
  have hget : ∀ i b', ((hp.put id ⟨.ptr j 0 :: r', b.sz, false, 0, b.ty⟩).put j ⟨cs1, b1.sz, false, 0, b1.ty⟩).get i = some b' →
      (i = j ∧ b' = ⟨cs1, b1.sz, false, 0, b1.ty⟩) ∨ (i = id ∧ b' = ⟨.ptr j 0 :: r', b.sz, false, 0, b.ty⟩) ∨ (i ≠ j ∧ i ≠ id ∧ hp.get i = some b') := by
    intro i b' h
    have hg' : Al.get hp.blks id = some b := hg
    have hg1' : Al.get hp.blks j = some b1 := hg1
    unfold Hp.get Hp.put at h
    simp only [] at h
    rw [Al.get_set] at h
    split at h
    · rename_i e
      rw [Al.get_set, if_neg hne, hg1'] at h
      cases h
      exact .inl ⟨e, rfl⟩
    · rename_i e
      rw [Al.get_set] at h
      split at h
      · rename_i e2
        rw [hg'] at h
        cases h
        exact .inr (.inl ⟨e2, rfl⟩)
      · rename_i e2
        exact .inr (.inr ⟨e, e2, h⟩)
  have hold : ∀ i b', ((hp.put id ⟨.ptr j 0 :: r', b.sz, false, 0, b.ty⟩).put j ⟨cs1, b1.sz, false, 0, b1.ty⟩).get i = some b' → ∃ b0, hp.get i = some b0 := by
    intro i b' h
    rcases hget i b' h with ⟨rfl, _⟩ | ⟨rfl, _⟩ | ⟨_, _, h⟩
    · exact ⟨b1, hg1⟩
    · exact ⟨b, hg⟩
    · exact ⟨b', h⟩
  refine ⟨⟨fun i bb pp hgi hmi => ?_, fun i k bi bk q q' hi hk hqi hqk e => ?_, fun i q h => ⟨(hs.lt i q h).1, Nat.lt_of_lt_of_le (hs.lt i q h).2 hx.size⟩, fun i b' h => ?_, hb'.fw, ?_⟩, ⟨hx.os, hx.tape, hx.output, hx.size, fun b0 hb0 hn => hx.keep b0 hb0 (hnb (hn id p hm) (hn j p1 hm1)), hx.cell, fun _ _ h => h, hx.mF, fun _ _ h => .inl h, ?_⟩⟩
  · rcases hget i bb hgi with ⟨rfl, rfl⟩ | ⟨rfl, rfl⟩ | ⟨hij, hii, hgi⟩
    · rw [hm1] at hmi
      cases hmi
      have hn := hb'.br 1 _ p1 rfl rfl
      obtain ⟨c, e, k1, k2, k3, k4⟩ := hn.blk
      refine ⟨hn.n, hn.sz.trans (hl1.trans c1.symm), hn.loose, ⟨c, e, k1, k2, k3, fun o x hx' => ?_⟩, hn.nf, hn.ty.1, hn.ty.2⟩
      obtain ⟨g1, y, g2, g3⟩ := k4 o x hx'
      exact ⟨g1, y, g2, VR.data 9 (st_data hc1 hx').1 g3⟩
    · rw [hm] at hmi
      cases hmi
      have hn := hb'.br 0 _ p rfl rfl
      obtain ⟨c, e, k1, k2, k3, k4⟩ := hn.blk
      refine ⟨hn.n, hn.sz.trans (hl.trans a1.symm), hn.loose, ⟨c, e, k1, k2, k3, fun o x hx' => ?_⟩, hn.nf, hn.ty.1, hn.ty.2⟩
      cases o with
      | zero =>
        simp at hx'
        subst hx'
        obtain ⟨_, y, g2, g3⟩ := k4 0 (.ptr 1 0) rfl
        refine ⟨rfl, y, g2, ?_⟩
        cases g3 with
        | ptr hj =>
          rcases up2_some hj with ⟨e, _⟩ | ⟨_, rfl⟩
          · cases e
          · exact .ptr hm1
      | succ o =>
        have hr : r'[o]? = some x := by simpa using hx'
        obtain ⟨g1, y, g2, g3⟩ := k4 (o + 1) x hx'
        exact ⟨g1, y, g2, VR.data 9 (st_data hc hr).1 g3⟩
    · have br := hs.br i bb pp hgi hmi
      have hp0 : p.b ≠ pp.b := fun e => hii (hs.inj i id bb b pp p hgi hg hmi hm e.symm)
      have hp1' : p1.b ≠ pp.b := fun e => hij (hs.inj i j bb b1 pp p1 hgi hg1 hmi hm1 e.symm)
      have hkeep : w'.heap[pp.b]? = w.heap[pp.b]? := hx.keep _ (hs.lt i pp hmi).2 (hnb hp0 hp1')
      obtain ⟨c, e, k1, k2, k3, k4⟩ := br.blk
      refine ⟨br.n, br.sz, br.loose, ⟨c, e, by rw [hkeep]; exact k1, k2, k3, fun o x hx' => ?_⟩, ?_, br.ty.1, by rw [hkeep]; exact br.ty.2⟩
      · obtain ⟨g1, y, g2, g3⟩ := k4 o x hx'
        exact ⟨g1, y, g2, g3.mono hx.mF hx.cell fun _ _ h => h⟩
      · intro o ho hf
        rcases hx.newF _ _ hf with h | h | ⟨i', q, h, h'⟩
        · exact br.nf o ho h
        · have := (hs.lt i pp hmi).2; omega
        · exact hnb hp0 hp1' i' q h h'
  · obtain ⟨b2, g1⟩ := hold i bi hi
    obtain ⟨b3, g2⟩ := hold k bk hk
    exact hs.inj i k b2 b3 q q' g1 g2 hqi hqk e
  · obtain ⟨b2, g1⟩ := hold i b' h
    exact hs.fresh i b2 g1
  · refine hs.ms.mono (Nat.le_refl _) (fun b0 hb0 => hx.keep b0 hb0.lt (hnb ?_ ?_)) hx.mF hx.cell (fun _ _ h => h) fun _ _ _ h => h
    · intro e
      subst e
      obtain ⟨c, e, k1, _⟩ := h0.blk
      exact notMap k1 hb0
    · intro e
      subst e
      obtain ⟨c, e, k1, _⟩ := h1.blk
      exact notMap k1 hb0
  · intro b0 o h
    rcases hx.newF b0 o h with h | h | ⟨i', q, h, h'⟩
    · exact .inl h
    · exact .inr (.inl h)
    · rcases up2_some h with ⟨_, rfl⟩ | ⟨_, rfl⟩
      · exact .inr (.inr ⟨id, q, hm, h'⟩)
      · exact .inr (.inr ⟨j, q, hm1, h'⟩)

theorem callW_sound (r0 : R) {O : Orc} (hO : OrcOk P O) {f id j : Nat} {l ds r : List PV} {hp hp1 h : Hp} {b : Blk} {p : PV} (hz : freezeL deepN hp l = some (ds, hp1)) (hg : hp1.get id = some b) (hb : b.cells = .ptr j 0 :: r)
    (e : ∀ k : PV → Hp → Option R, callW O f id j b r k ds hp1 (hp1.get j) = k p h) :
    Enters P f ∧ ∀ (w : World) (F : Fz) (M : Mp) (args : Array Value), HS hp w F M → VRs w F M (.ptr id 0 :: l) args.toList → Calls P f args w (CallPost w F M p h) := by
  have no : ¬ ∀ k : PV → Hp → Option R, (none : Option R) = k p h := fun e => by
    have := e fun _ _ => some r0
    cases this
  unfold callW at e
  cases hg1 : hp1.get j with
  | none => simp only [hg1] at e; exact (no e).elim
  | some b1 =>
    simp only [hg1] at e
    split at e
    · exact (no e).elim
    rename_i hcond
    simp only [Bool.and_eq_true, Bool.not_eq_true'] at hcond
    obtain ⟨hne, hk, hk1⟩ := hcond
    have hne : j ≠ id := fun e => by rw [e, Nat.beq_refl] at hne; cases hne
    unfold wAns at e
    split at e
    · rename_i q t1 cs1 r' ho
      split at e
      · rename_i hcc
        simp only [Bool.and_eq_true] at hcc
        obtain ⟨d1, d2, d3, d4, d5⟩ := hcc
        have d1 := Nat.eq_of_beq_eq_true d1
        have d2 := Nat.eq_of_beq_eq_true d2
        have d3 := Nat.eq_of_beq_eq_true d3
        subst d1
        obtain ⟨rfl, rfl⟩ := Uni2.eq_of r0 e
        have hX := hO f _ _ ho
        unfold KnownX at hX
        simp only [stKey, unKey] at hX
        obtain ⟨q1, cs2, heq, h1, h2⟩ := hX
        injection heq with heq
        injection heq with e1 heq
        injection heq with e2 heq
        injection e2 with e2
        subst e1; subst e2
        refine ⟨h1, fun w F M args hs hv => ?_⟩
        rcases hargs : args.toList with _ | ⟨y0, ys⟩
        · rw [hargs] at hv; exact absurd hv.1 (by simp)
        · rw [hargs] at hv
          have hv0 := hv.2 0 _ y0 rfl rfl
          have hvr : VRs w F M l ys := ⟨by simpa using hv.1, fun i c z hc hz => hv.2 (i + 1) c z (by simpa using hc) (by simpa using hz)⟩
          cases hv0 with
          | ptr hm =>
            rename_i pl
            obtain ⟨F1, g1, g2, g3, _⟩ := freezeL_sound deepN hp l ds hp1 hz F ys hs hvr
            obtain ⟨pl1, hm1⟩ : ∃ p1, M j = some p1 := by
              have br := g1.br id b pl hg hm
              obtain ⟨c, e, k1, k2, k3, k4⟩ := br.blk
              obtain ⟨_, y, _, g⟩ := k4 0 (.ptr j 0) (by rw [hb]; rfl)
              cases g with
              | ptr hj => exact ⟨_, hj⟩
            refine Calls.mono (h2 w F1 ((noMap.up 0 pl).up 1 pl1) args (g1.alone2 hg hm hb hg1 hm1 hne hk hk1) ?_) ?_
            · rw [hargs]
              refine ⟨by simp [g3.1], fun i c y hc hy => ?_⟩
              cases i with
              | zero => simp at hc hy; subst hc; subst hy; exact .ptr rfl
              | succ i => exact (g3.2 i c y (by simpa using hc) (by simpa using hy)).mono (fun _ _ h => h) (fun _ _ _ => rfl) (fun _ _ h => by cases h)
            · rintro e w' ⟨v, F', rfl, k1, k2, k3⟩
              obtain ⟨k4, k5⟩ := g1.back2 hg hm hb hg1 hm1 hne hk hk1 d3 d2 d5 d4 k2 k3
              exact ⟨v, F', M, rfl, k1.mono (fun _ _ h => h) (fun _ _ _ => rfl) (fun _ _ h => by cases h), k4, g2.trans k5⟩
      · exact (no e).elim
    · exact (no e).elim

theorem callS_sound (r : R) {O : Orc} (hO : OrcOk P O) {f id : Nat} {l : List PV} {hp h : Hp} {p : PV} (e : ∀ k : PV → Hp → Option R, callS O f id k (freezeL deepN hp l) = k p h) :
    Enters P f ∧ ∀ (w : World) (F : Fz) (M : Mp) (args : Array Value), HS hp w F M → VRs w F M (.ptr id 0 :: l) args.toList → Calls P f args w (CallPost w F M p h) := by
  unfold callS at e
  have no : ¬ ∀ k : PV → Hp → Option R, (none : Option R) = k p h := fun e => by
    have := e fun _ _ => some r
    cases this
  cases hz : freezeL deepN hp l with
  | none => simp only [hz] at e; exact (no e).elim
  | some dh =>
    simp only [hz] at e
    cases hg : dh.2.get id with
    | none => simp only [hg] at e; exact (no e).elim
    | some b =>
      simp only [hg] at e
      cases hk : stOk b with
      | false =>
        simp only [hk] at e
        cases hh : headPtr b.cells with
        | none => simp only [hh] at e; exact (no e).elim
        | some jr =>
          simp only [hh] at e
          exact callW_sound r hO (ds := dh.1) (hp1 := dh.2) hz hg (headPtr_some hh) e
      | true =>
        simp only [hk] at e
        unfold stAns at e
        split at e
        · rename_i q cs ho
          split at e
          · rename_i hcc
            simp only [Bool.and_eq_true] at hcc
            obtain ⟨rfl, rfl⟩ := Uni2.eq_of r e
            have hX := hO f _ _ ho
            unfold KnownX at hX
            simp only [stKey, unKey] at hX
            obtain ⟨q1, cs1, heq, h1, h2⟩ := hX
            injection heq with heq
            injection heq with e1 heq
            injection heq with e2 heq
            injection e2 with e2
            subst e1; subst e2
            refine ⟨h1, fun w F M args hs hv => ?_⟩
            rcases hargs : args.toList with _ | ⟨y0, ys⟩
            · rw [hargs] at hv; exact absurd hv.1 (by simp)
            · rw [hargs] at hv
              have hv0 := hv.2 0 _ y0 rfl rfl
              have hvr : VRs w F M l ys := ⟨by simpa using hv.1, fun i c z hc hz => hv.2 (i + 1) c z (by simpa using hc) (by simpa using hz)⟩
              cases hv0 with
              | ptr hm =>
                rename_i pl
                obtain ⟨F1, g1, g2, g3, _⟩ := freezeL_sound deepN hp l dh.1 dh.2 hz F ys hs hvr
                have hkc : stCells b.cells = true := by
                  unfold stOk at hk
                  simp only [Bool.and_eq_true] at hk
                  exact hk.2.2.2
                have hcl : cs.length = b.cells.length := Nat.eq_of_beq_eq_true hcc.1
                rw [startS_one hkc, startS_one hcc.2] at h2
                refine Calls.mono (h2 w F1 (noMap.up 0 pl) args (g1.alone hg hm hk) ?_) ?_
                · rw [hargs]
                  refine ⟨by simp [g3.1], fun i c y hc hy => ?_⟩
                  cases i with
                  | zero => simp at hc hy; subst hc; subst hy; exact .ptr rfl
                  | succ i => exact (g3.2 i c y (by simpa using hc) (by simpa using hy)).mono (fun _ _ h => h) (fun _ _ _ => rfl) (fun _ _ h => by cases h)
                · rintro e w' ⟨v, F', rfl, k1, k2, k3⟩
                  rw [hcl] at k2
                  obtain ⟨k4, k5⟩ := g1.back hg hm hk hcc.2 k2 k3
                  exact ⟨v, F', M, rfl, k1.mono (fun _ _ h => h) (fun _ _ _ => rfl) (fun _ _ h => by cases h), k4, g2.trans k5⟩
          · exact (no e).elim
        · exact (no e).elim

theorem callA_sound (r : R) {O : Orc} (hO : OrcOk P O) {f : Nat} {l : List PV} {hp h : Hp} {p : PV} (e : ∀ k : PV → Hp → Option R, callA O f (freezeL deepN) l hp k = k p h) :
    Enters P f ∧ ∀ (w : World) (F : Fz) (M : Mp) (args : Array Value), HS hp w F M → VRs w F M l args.toList → Calls P f args w (CallPost w F M p h) := by
  unfold callA at e
  split at e
  · split at e
    · exact callS_sound r hO e
    · have := e fun _ _ => some r
      cases this
  · exact callO_sound r hO e

theorem cmpI_eq : ∀ a b : List UInt8, Lib.compareBytes a b = cmpI a b
  | [], [] => rfl
  | [], _ :: _ => rfl
  | _ :: _, [] => rfl
  | x :: a, y :: b => by
    have ih := cmpI_eq a b
    unfold Lib.compareBytes
    unfold cmpI bytesEq bytesLt
    rcases Nat.lt_trichotomy x.toNat y.toNat with h | h | h
    · have h1 : Nat.beq x.toNat y.toNat = false := by rw [Bool.eq_false_iff]; intro e; have := Nat.eq_of_beq_eq_true e; omega
      have h2 : Nat.blt x.toNat y.toNat = true := Nat.ble_eq_true_of_le h
      have h3 : x < y := h
      simp [h1, h2, h3]
    · have hxy : x = y := UInt8.toNat_inj.1 h
      subst hxy
      have h1 : Nat.beq x.toNat x.toNat = true := Nat.beq_refl _
      have h2 : Nat.blt x.toNat x.toNat = false := by
        rw [Bool.eq_false_iff]; intro e; have : x.toNat + 1 ≤ x.toNat := Nat.le_of_ble_eq_true e; omega
      have h3 : ¬ x < x := UInt8.lt_irrefl x
      simp only [h1, h2, h3, if_false]
      rw [ih]
      rfl
    · have h1 : Nat.beq x.toNat y.toNat = false := by rw [Bool.eq_false_iff]; intro e; have := Nat.eq_of_beq_eq_true e; omega
      have h2 : Nat.blt x.toNat y.toNat = false := by
        rw [Bool.eq_false_iff]; intro e; have : x.toNat + 1 ≤ y.toNat := Nat.le_of_ble_eq_true e; omega
      have h3 : ¬ x < y := by intro e; have : x.toNat < y.toNat := e; omega
      have h4 : y < x := h
      simp [h1, h2, h3, h4]

theorem callF_sound (r : R) (hT : TOk P T) {FT : Fns} {O : Orc} (hF : FTOk P FT) (hO : OrcOk P O) {rc : RC R} (hu : UniRC rc) (hr : SoundRun P T rc) : SoundCall P (callF T FT O rc) := by
  intro f l hp p h e
  unfold callF at e
  cases hf : FT.get f with
  | none =>
    simp only [hf] at e
    obtain ⟨h1, h2⟩ := callA_sound r hO e
    exact fun w F M args hs hv => .inl ⟨h1, h2 w F M args hs hv⟩
  | some fi =>
    simp only [hf] at e
    cases hd : fi.data with
    | false =>
      simp only [hd] at e
      cases hm : fi.mix with
      | false =>
        simp only [hm] at e
        cases hb : fi.fn.body with
        | some c =>
          simp only [hb] at e
          obtain ⟨h1, h2⟩ := ownF_sound r hT hF hu hr hf e
          exact fun w F M args hs hv => .inl ⟨h1, h2 w F M args hs hv⟩
        | none =>
          simp only [hb] at e
          obtain ⟨g1, g2, _, g3⟩ := hF f fi hf
          obtain ⟨g4, g5⟩ := g3 hb
          unfold noBody at e
          cases hz : fi.frz with
          | false =>
            simp only [hz] at e
            have g5 := g5.1 hz
            unfold extF at e
            split at e
            · obtain ⟨rfl, rfl⟩ := Uni2.eq_of r e
              intro w F M args hs hv
              obtain ⟨y, hy⟩ : ∃ y, args = #[y] := by
                have h1 : args.toList.length = 1 := hv.1
                rcases hl : args.toList with _ | ⟨y, _ | ⟨z, t⟩⟩ <;> simp [hl] at h1
                exact ⟨y, by apply Array.ext'; simpa using hl⟩
              subst hy
              refine .inr ⟨y, w, ?_, y, F, M, rfl, hv.2 0 _ y rfl rfl, hs, Ext.refl w F M⟩
              rw [run_callFunc_extern g1 g2 (by rw [hb]; rfl) g4 g5]
              rfl
            · have := e fun _ _ => some r
              cases this
          | true =>
            simp only [hz] at e
            have g5 := g5.2 hz
            unfold cmpTxt at e
            split at e
            · rename_i a b
              obtain ⟨rfl, rfl⟩ := Uni2.eq_of r e
              intro w F M args hs hv
              obtain ⟨y, z, hy⟩ : ∃ y z, args = #[y, z] := by
                have h1 : args.toList.length = 2 := hv.1
                rcases hl : args.toList with _ | ⟨y, _ | ⟨z, _ | ⟨x, t⟩⟩⟩ <;> simp [hl] at h1
                exact ⟨y, z, by apply Array.ext'; simpa using hl⟩
              subst hy
              have hy := hv.2 0 _ y rfl rfl
              have hzv := hv.2 1 _ z rfl rfl
              cases hy
              cases hzv
              refine .inr ⟨_, w, ?_, _, F, M, rfl, .v rfl, hs, Ext.refl w F M⟩
              rw [run_callFunc_extern g1 g2 (by rw [hb]; rfl) g4 g5, Lib.run_compareString, cmpI_eq]
              rfl
            · have := e fun _ _ => some r
              cases this
      | true =>
        simp only [hm] at e
        cases hl : l.any headUnk with
        | false =>
          simp only [hl] at e
          obtain ⟨h1, h2⟩ := ownF_sound r hT hF hu hr hf e
          exact fun w F M args hs hv => .inl ⟨h1, h2 w F M args hs hv⟩
        | true =>
          simp only [hl] at e
          obtain ⟨h1, h2⟩ := callO_sound r hO e
          exact fun w F M args hs hv => .inl ⟨h1, h2 w F M args hs hv⟩
    | true =>
      simp only [hd] at e
      unfold callD at e
      cases hz : freezeL deepN hp l with
      | none =>
        simp only [hz] at e
        have := e fun _ _ => some r
        cases this
      | some dh =>
        simp only [hz] at e
        rcases bodyF_uni (T := T) hu fi dh.1 ⟨[], 0, []⟩ with g | ⟨q, h', g⟩
        · have g' : ∀ k, bodyF T fi rc dh.1 ⟨[], 0, []⟩ k = none := g
          have := e fun _ _ => some r
          rw [g'] at this; cases this
        · have g' : ∀ k, bodyF T fi rc dh.1 ⟨[], 0, []⟩ k = k q h' := g
          have e' : ∀ k : PV → Hp → Option R, dataK k dh.2 q h' = k p h := fun k => by rw [← e k, g']
          unfold dataK at e'
          cases hq : freeze deepN h' q with
          | none =>
            simp only [hq] at e'
            have := e' fun _ _ => some r
            cases this
          | some qh =>
            simp only [hq] at e'
            obtain ⟨rfl, rfl⟩ := Uni2.eq_of r e'
            obtain ⟨h1, h2⟩ := bodyF_sound r hT hF hu hr hf g'
            refine fun w F M args hs hv => .inl ⟨h1, ?_⟩
            obtain ⟨F1, g1, g2, g3, _⟩ := freezeL_sound deepN hp l dh.1 dh.2 hz F args.toList hs hv
            refine Calls.mono (h2 w F1 noMap args (HS.empty 0 g1.fw) g3) ?_
            rintro e w' ⟨v, F', M', rfl, k1, k2, k3⟩
            obtain ⟨F2, m1, m2, m3⟩ := freeze_sound deepN h' q qh.1 qh.2 hq F' v k2 k1
            have hx : Ext w w' F1 F2 noMap M' := k3.trans m2
            have hx' : Ext w w' F1 F2 noMap noMap := ⟨hx.os, hx.tape, hx.output, hx.size, hx.keep, hx.cell, fun _ _ h => h, hx.mF, fun _ _ h => .inl h, hx.newF⟩
            obtain ⟨k4, k5⟩ := g1.behind hx' m1.fw
            exact ⟨v, F2, M, rfl, m3.mono (fun _ _ h => h) (fun _ _ _ => rfl) (fun _ _ h => by cases h), k4, g2.trans k5⟩

/-- the evaluator, at every fuel -/
theorem run_sound (r : R) (hT : TOk P T) (hD : DrawSound P T R) {FT : Fns} {O : Orc} (hF : FTOk P FT) (hO : OrcOk P O) (n : Nat) : SoundRun P T (run (R := R) T FT O n) := by
  induction n using Nat.strongRecOn with
  | _ n ih =>
    cases n with
    | zero =>
      intro fi c _ st ex st' e
      have := e fun _ _ => some r
      cases this
    | succ m =>
      intro fi c hok st ex st' e a w F M Q ht hs hn hq
      exact evC_sound r hT hD fi m (fun m' hm => callF_sound r hT hF hO (run_uni FT O m') (ih m' (by omega))) c hok m (Nat.le_refl _) st ex st' e a w F M Q ht hs hn hq

/-- a call of a function that the table holds -/
theorem call_sound (r : R) (hT : TOk P T) (hD : DrawSound P T R) {FT : Fns} {O : Orc} (hF : FTOk P FT) (hO : OrcOk P O) (n : Nat) : SoundCall P (callF (R := R) T FT O (run T FT O n)) :=
  callF_sound r hT hF hO (run_uni FT O n) (run_sound r hT hD hF hO n)
end
end Go.Ev
