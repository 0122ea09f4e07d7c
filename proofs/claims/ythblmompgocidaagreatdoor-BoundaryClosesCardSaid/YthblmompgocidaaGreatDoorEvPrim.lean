/- Operations: each kind of them, as the code's own step takes it. -/
import Derived.Test.YthblmompgocidaaGreatDoorEvOps
import Derived.Test.YthblmompgocidaaGreatDoorEvUni
import Derived.Tactics
import Derived.Laws.Externs
import Derived.Lib.Bytealg
set_option linter.all false
/- Operations: each kind of them, as the code's own step takes it. -/
namespace Go.Ev
variable [Env]
section
variable {P : Program} {T : Types} {w : World} {F : Fz} {M : Mp} {hp : Hp}

def GoodNQ (w : World) (F : Fz) (M : Mp) (res : Result Next) (p : PV) (hp h : Hp) : Prop :=
  h = hp ∧ ∃ v, res = .ok (.value v) w ∧ VR w F M p v

def GoodNA (w : World) (F : Fz) (M : Mp) (res : Result Next) (p : PV) (hp h : Hp) : Prop :=
  ∃ (cs : List PV) (ys : Array Value) (t : TypeId) (sz : Nat) (v : Value), h = hp.new ⟨cs, sz, false, 0, t⟩ ∧ VL w F M cs ys.toList ∧ res = .ok (.value v) (w.alloc (.cells ys t)) ∧
    ∀ (w' : World) (F' : Fz) (M' : Mp), M' hp.next = some ⟨w.heap.size, 0, cs.length, ys.size, sz, false⟩ → VR w' F' M' p v

theorem GoodQ.next {p : PV} {h : Hp} {s : Sem Value} (g : GoodQ w F M (s.run P w) p hp h) : GoodNQ w F M ((do pure (Next.value (← s)) : Sem Next).run P w) p hp h := by
  obtain ⟨rfl, v, hr, hv⟩ := g
  exact ⟨rfl, v, by simp [hr], hv⟩

theorem GoodA.next {p : PV} {h : Hp} {s : Sem Value} (g : GoodA w F M (s.run P w) p hp h) : GoodNA w F M ((do pure (Next.value (← s)) : Sem Next).run P w) p hp h := by
  obtain ⟨cs, ys, t, sz, v, h1, h2, h3, h4⟩ := g
  exact ⟨cs, ys, t, sz, v, h1, h2, by simp [h3], h4⟩

theorem GoodNQ.goodN {p : PV} {h : Hp} {res : Result Next} (hs : HS hp w F M) (g : GoodNQ w F M res p hp h) : GoodN w F M res p h := by
  obtain ⟨rfl, v, hr, hv⟩ := g
  exact ⟨w, M, .inl ⟨v, hr, hv⟩, hs, Ext.refl w F M⟩

theorem GoodNA.goodN {p : PV} {h : Hp} {res : Result Next} (hs : HS hp w F M) (g : GoodNA w F M res p hp h) : GoodN w F M res p h := by
  obtain ⟨cs, ys, t, sz, v, rfl, hv, hr, hvr⟩ := g
  have h := hs.new cs ys.toList [] t sz false 0 hv
  simp only [List.append_nil, Array.toArray_toList, Array.length_toList] at h
  exact ⟨_, _, .inl ⟨v, hr, hvr _ _ _ (Mp.up_self _ _ _)⟩, h.1, h.2⟩

theorem TS.opd' {tm : Tm} {a : Act} (h : TS tm a w F M) (x : Operand) : ∀ q, Ev.opd x tm = some q → VR w F M q (a.eval x) := fun _ hq => h.opd hq

/-- an operation that does nothing to the heap -/
theorem prim_pure (hT : TOk P T) {tm : Tm} {a : Act} (ht : TS tm a w F M) (o : Oper) (hk : opKind o.op = .pure) {p : PV} {h : Hp} (e : prim T o.op hp tm = some (p, h)) :
    GoodNQ w F M ((execOp a.eval o).run P w) p hp h := by
  obtain ⟨dst, op, type, pos, after, guard⟩ := o
  cases op <;> simp only [prim] at e <;> try (cases e; done)
  case move x =>
    obtain ⟨e1, rfl⟩ := ret1_some e
    exact ⟨rfl, _, rfl, ht.opd e1⟩
  case assign x =>
    obtain ⟨e1, rfl⟩ := ret1_some e
    exact ⟨rfl, _, rfl, ht.opd e1⟩
  case pick c x y =>
    unfold primPick at e
    split at e
    · rename_i hc
      obtain ⟨e1, rfl⟩ := ret1_some e
      have h1 := ht.opd hc
      refine ⟨rfl, a.eval x, ?_, ht.opd e1⟩
      generalize hcv : a.eval c = cv at h1
      cases h1
      simp [execOp, hcv, asBool]
    · rename_i hc
      obtain ⟨e1, rfl⟩ := ret1_some e
      have h1 := ht.opd hc
      refine ⟨rfl, a.eval y, ?_, ht.opd e1⟩
      generalize hcv : a.eval c = cv at h1
      cases h1
      simp [execOp, hcv, asBool]
    · cases e
  case build t parts => exact (build_sound hT ht e).next
  case nilCheck x =>
    unfold primNil at e
    split at e <;> try (cases e; done)
    all_goals
      rename_i hc
      cases e
      have h1 := ht.opd hc
      refine ⟨rfl, a.eval x, ?_, h1⟩
      generalize hcv : a.eval x = cv at h1
      cases h1
      simp [execOp, hcv]
  case binOp op xt x y yt => exact (bin_sound hT (ht.opd' x) (ht.opd' y) e).next
  case unOp op xt x =>
    unfold primUn at e
    cases hx : opd x tm with
    | none => simp [hx] at e
    | some q =>
      simp only [hx] at e
      have e2 := ret1_some e
      clear e
      obtain ⟨e, rfl⟩ := e2
      obtain ⟨y, h1, h2⟩ := una_sound (P := P) (ht.opd hx) e
      exact ⟨rfl, y, by simp [execOp, h1], h2⟩
  case convert s d x => simp [opKind] at hk
  case makeMap t x => simp [opKind] at hk
  case lookup t x k ok => simp [opKind] at hk
  case mapUpdate t x k v => simp [opKind] at hk
  case insert t x k v => simp [opKind] at hk
  case makeInterface t x => exact (iface_sound hT (ht.opd' x) e).next
  case makeFunc fn first caps =>
    unfold primFunc at e
    split at e <;> try (cases e; done)
    rename_i f l hl
    obtain ⟨h1, h2⟩ := ht.opds hl
    split at e
    · rename_i hf
      cases e
      refine ⟨rfl, .func (.func f) #[] (caps.toList.map a.eval).toArray, ?_, .clo h1 h2⟩
      have hfe : first = #[] := by simpa using hf
      subst hfe
      have hm : (List.map a.eval caps.toList).toArray = caps.map a.eval := by rw [← Array.toList_map, Array.toArray_toList]
      rw [hm]
      simp [execOp, Instr.makeFunc]
    · split at e <;> try (cases e; done)
      split at e <;> try (cases e; done)
      rename_i m hm'
      cases e
      obtain ⟨g1, g2⟩ := ht.opds hm'
      refine ⟨rfl, .func (.func f) (first.toList.map a.eval).toArray #[], ?_, .bnd g1 g2⟩
      have hce : caps = #[] := by
        have : caps.toList.length = 0 := by simpa using h1
        apply Array.ext'
        simpa using List.length_eq_zero_iff.1 this
      subst hce
      have hm : (List.map a.eval first.toList).toArray = first.map a.eval := by rw [← Array.toList_map, Array.toArray_toList]
      rw [hm]
      simp [execOp, Instr.makeFunc]
  case slice t x lo hi mx =>
    unfold primSlice at e
    cases hx : opd x tm with
    | none => simp [hx] at e
    | some q =>
      cases hlo : opdO lo tm with
      | none => simp [hx, hlo] at e
      | some l =>
        cases hhi : opdO hi tm with
        | none => simp [hx, hlo, hhi] at e
        | some h' =>
          cases hmx : opdO mx tm with
          | none => simp [hx, hlo, hhi, hmx] at e
          | some m =>
            simp only [hx, hlo, hhi, hmx] at e
            have e2 := ret1_some e
            clear e
            obtain ⟨e, rfl⟩ := e2
            exact (sliceOf_sound hT (ht.opd hx) (ht.opdO hlo) (ht.opdO hhi) (ht.opdO hmx) e).next
  case fieldAddr s x f => exact (fieldAddr_sound hT (ht.opd' x) e).next
  case field s x f => exact (field_sound hT (ht.opd' x) e).next
  case indexAddr t x i => exact (indexAddr_sound hT (ht.opd' x) (ht.opd' i) e).next
  case index t x i => exact (index_sound hT (ht.opd' x) (ht.opd' i) e).next
  case extract x i => exact (extract_sound (ht.opd' x) e).next
  case alloc t => simp [opKind] at hk
  case box t x => simp [opKind] at hk
  case buildSlice t n ps => simp [opKind] at hk
  case makeSlice t x y => simp [opKind] at hk
  case load t x => simp [opKind] at hk
  case store t x y => simp [opKind] at hk
  case call c =>
    obtain ⟨callee, args, ats⟩ := c
    cases callee <;> simp only [] at e <;> try (cases e; done)
    rename_i b
    cases b <;> simp only [primBuiltin] at e <;> try (cases e; done)
    case len =>
      rcases ha : args.toList with _ | ⟨x, _ | ⟨y, r⟩⟩ <;> rcases hts : ats.toList with _ | ⟨t, _ | ⟨u, s⟩⟩ <;> simp only [ha, hts] at e <;> try (cases e; done)
      have h1 : args = #[x] := by apply Array.ext'; simpa using ha
      have h2 : ats = #[t] := by apply Array.ext'; simpa using hts
      subst h1; subst h2
      have g := (len_sound (P := P) (ty := type) hT (ht.opd' x) e).next
      simpa [execOp, resolve, invoke, builtin] using g
    case append => simp [opKind] at hk
    case copy => simp [opKind] at hk
    case cap => simp [opKind] at hk
    case clear => simp [opKind] at hk
    case unsafeString => simp [opKind] at hk
    case unsafeSliceData =>
      rcases ha : args.toList with _ | ⟨x, _ | ⟨y, r⟩⟩ <;> simp only [ha] at e <;> try (cases e; done)
      have h1 : args = #[x] := by apply Array.ext'; simpa using ha
      subst h1
      have g := (sliceData_sound (P := P) (ts := ats) (ty := type) (ht.opd' x) e).next
      simpa [execOp, resolve, invoke, builtin] using g
    case max =>
      have g := (minmax_sound (P := P) (mx := true) (fun ps h => ht.opds h) e ats type).next
      rw [← Array.toList_map, Array.toArray_toList] at g
      simpa [execOp, resolve, invoke, builtin] using g
    case min =>
      have g := (minmax_sound (P := P) (mx := false) (fun ps h => ht.opds h) e ats type).next
      rw [← Array.toList_map, Array.toArray_toList] at g
      simpa [execOp, resolve, invoke, builtin] using g

/-- an operation that makes a block -/
theorem prim_alloc (hT : TOk P T) {tm : Tm} {a : Act} (ht : TS tm a w F M) (o : Oper) (hk : opKind o.op = .alloc) {p : PV} {h : Hp} (e : prim T o.op hp tm = some (p, h)) :
    GoodNA w F M ((execOp a.eval o).run P w) p hp h := by
  obtain ⟨dst, op, type, pos, after, guard⟩ := o
  cases op <;> simp only [prim] at e <;> try (cases e; done)
  case alloc t => exact (alloc_sound hT e).next
  case box t x => exact (box_sound (ht.opd' x) e).next
  case buildSlice t n ps => exact (buildSlice_sound hT ht e).next
  case makeSlice t x y => exact (make_sound hT (ht.opd' x) (ht.opd' y) e).next
  case call c =>
    obtain ⟨callee, args, ats⟩ := c
    cases callee <;> simp only [opKind] at hk <;> try (cases hk; done)
    rename_i b
    cases b <;> simp at hk
  all_goals (simp [opKind] at hk)

/-- an operation that loads -/
theorem prim_load {tm : Tm} (o : Oper) (hk : opKind o.op = .load) {p : PV} {h : Hp} (e : prim T o.op hp tm = some (p, h)) :
    ∃ t x q, o.op = .load t x ∧ opd x tm = some q ∧ loadAt T hp t q = some p ∧ h = hp := by
  obtain ⟨dst, op, type, pos, after, guard⟩ := o
  cases op <;> simp only [prim] at e <;> try (cases e; done)
  case load t x =>
    unfold primLoad at e
    cases hx : opd x tm with
    | none => simp [hx] at e
    | some q =>
      simp only [hx] at e
      have e2 := ret1_some e
      exact ⟨t, x, q, rfl, hx, e2.1, e2.2⟩
  case call c =>
    obtain ⟨callee, args, ats⟩ := c
    cases callee <;> simp only [opKind] at hk <;> try (cases hk; done)
    rename_i b
    cases b <;> simp at hk
  all_goals (simp [opKind] at hk)

theorem load_sound (hT : TOk P T) (hs : HS hp w F M) {tm : Tm} {a : Act} (ht : TS tm a w F M) {o : Oper} {t : TypeId} {x : Operand} (ho : o.op = .load t x) {q p : PV} (hx : opd x tm = some q) (hl : loadAt T hp t q = some p) :
    GoodNQ w F M ((execOp a.eval o).run P w) p hp hp := by
  obtain ⟨y, h1, h2⟩ := loadAt_sound hT hs (ht.opd hx) hl
  exact ⟨rfl, y, by simp [execOp, ho, h1], h2⟩

/-- an operation that changes blocks -/
theorem prim_eff (hT : TOk P T) (hs : HS hp w F M) {tm : Tm} {a : Act} (ht : TS tm a w F M) (o : Oper) (hk : opKind o.op = .eff) {p : PV} {h : Hp} (e : prim T o.op hp tm = some (p, h)) :
    GoodN w F M ((execOp a.eval o).run P w) p h := by
  obtain ⟨dst, op, type, pos, after, guard⟩ := o
  cases op <;> simp only [prim] at e <;> try (cases e; done)
  case store t x y =>
    unfold primStore at e
    cases hx : opd x tm with
    | none => simp [hx] at e
    | some q =>
      cases hy : opd y tm with
      | none => simp [hx, hy] at e
      | some r =>
        simp only [hx, hy] at e
        cases hst : storeAt T hp t q r with
        | none => simp [hst, stored] at e
        | some h' =>
          simp only [hst, stored] at e; cases e
          obtain ⟨w', h1, h2, h3⟩ := storeAt_sound hT hs (ht.opd hx) (ht.opd hy) hst
          exact ⟨w', M, .inr ⟨by simp [execOp, h1], rfl⟩, h2, h3⟩
  case lookup t x k ok => exact ((look_sound hT hs (ht.opd' x) (ht.opd' k) e).next).goodN hs
  case call c =>
    obtain ⟨callee, args, ats⟩ := c
    cases callee <;> simp only [] at e <;> try (cases e; done)
    rename_i b
    cases b <;> simp only [primBuiltin] at e <;> try (simp [opKind] at hk; done)
    case append =>
      rcases ha : args.toList with _ | ⟨x, _ | ⟨y, _ | ⟨z, r⟩⟩⟩ <;> rcases hts : ats.toList with _ | ⟨t, _ | ⟨u, _ | ⟨v, s⟩⟩⟩ <;> simp only [ha, hts] at e <;> try (cases e; done)
      have h1 : args = #[x, y] := by apply Array.ext'; simpa using ha
      have h2 : ats = #[t, u] := by apply Array.ext'; simpa using hts
      subst h1; subst h2
      cases htu : Nat.beq t u with
      | false =>
        simp only [htu] at e
        unfold prim2 at e
        cases hx : opd x tm with
        | none => simp [hx] at e
        | some q =>
          cases hy : opd y tm with
          | none => simp [hx, hy] at e
          | some r =>
            simp only [hx, hy] at e
            have g := (appZ_sound (P := P) (ty := type) hT hs (ht.opd hx) (ht.opd hy) e).next
            simpa [execOp, resolve, invoke, builtin] using g
      | true =>
        obtain rfl := Nat.eq_of_beq_eq_true htu
        simp only [htu] at e
        unfold prim2 at e
        cases hx : opd x tm with
        | none => simp [hx] at e
        | some q =>
          cases hy : opd y tm with
          | none => simp [hx, hy] at e
          | some r =>
            simp only [hx, hy] at e
            have g := (app_sound (P := P) (ty := type) hT hs (ht.opd hx) (ht.opd hy) e).next
            simpa [execOp, resolve, invoke, builtin] using g
    case copy =>
      rcases ha : args.toList with _ | ⟨x, _ | ⟨y, _ | ⟨z, r⟩⟩⟩ <;> rcases hts : ats.toList with _ | ⟨t, _ | ⟨u, _ | ⟨v, s⟩⟩⟩ <;> simp only [ha, hts] at e <;> try (cases e; done)
      have h1 : args = #[x, y] := by apply Array.ext'; simpa using ha
      have h2 : ats = #[t, u] := by apply Array.ext'; simpa using hts
      subst h1; subst h2
      cases htu : Nat.beq t u with
      | false => simp [htu] at e
      | true =>
        obtain rfl := Nat.eq_of_beq_eq_true htu
        simp only [htu] at e
        unfold prim2 at e
        cases hx : opd x tm with
        | none => simp [hx] at e
        | some q =>
          cases hy : opd y tm with
          | none => simp [hx, hy] at e
          | some r =>
            simp only [hx, hy] at e
            have g := (copy_sound (P := P) (ty := type) hT hs (ht.opd hx) (ht.opd hy) e).next
            simpa [execOp, resolve, invoke, builtin] using g
    case unsafeString =>
      rcases ha : args.toList with _ | ⟨x, _ | ⟨y, _ | ⟨z, r⟩⟩⟩ <;> rcases hts : ats.toList with _ | ⟨t, _ | ⟨u, _ | ⟨v, s⟩⟩⟩ <;> simp only [ha, hts] at e <;> try (cases e; done)
      have h1 : args = #[x, y] := by apply Array.ext'; simpa using ha
      have h2 : ats = #[t, u] := by apply Array.ext'; simpa using hts
      subst h1; subst h2
      have g := (unsStr_sound (P := P) (it := u) (ty := type) hT hs (ht.opd' x) (ht.opd' y) e).next
      simpa [execOp, resolve, invoke, builtin] using g
  all_goals (simp [opKind] at hk)

/-- operations that regions that draw their order don't take -/
theorem prim_bad (hT : TOk P T) (hs : HS hp w F M) {tm : Tm} {a : Act} (ht : TS tm a w F M) (o : Oper) (hk : opKind o.op = .bad) {p : PV} {h : Hp} (e : prim T o.op hp tm = some (p, h)) :
    GoodN w F M ((execOp a.eval o).run P w) p h := by
  obtain ⟨dst, op, type, pos, after, guard⟩ := o
  cases op <;> simp only [prim] at e <;> try (first | (cases e; done) | (simp [opKind] at hk; done))
  case makeMap t x => 
    have g := (newMap_sound (P := P) (ρ := a.eval) hT hs (fun o q _ hq => ht.opd hq) e).next
    simpa [execOp] using g
  case mapUpdate t x k v =>
    obtain ⟨w', rfl, h1, h2, h3⟩ := upd_sound (P := P) hT hs (ht.opd' x) (ht.opd' k) (ht.opd' v) e
    exact ⟨w', M, .inr ⟨by simp [execOp, h1], rfl⟩, h2, h3⟩
  case insert t x k v =>
    obtain ⟨w', rfl, h1, h2, h3⟩ := upd_sound (P := P) hT hs (ht.opd' x) (ht.opd' k) (ht.opd' v) e
    exact ⟨w', M, .inr ⟨by simp [execOp, h1], rfl⟩, h2, h3⟩
  case call c =>
    obtain ⟨callee, args, ats⟩ := c
    cases callee <;> simp only [] at e <;> try (cases e; done)
    rename_i b
    cases b <;> simp only [primBuiltin] at e <;> try (first | (cases e; done) | (simp [opKind] at hk; done))
    case cap =>
      rcases ha : args.toList with _ | ⟨x, _ | ⟨y, r⟩⟩ <;> rcases hts : ats.toList with _ | ⟨t, _ | ⟨u, s⟩⟩ <;> simp only [ha, hts] at e <;> try (cases e; done)
      have h1 : args = #[x] := by apply Array.ext'; simpa using ha
      have h2 : ats = #[t] := by apply Array.ext'; simpa using hts
      subst h1; subst h2
      have g := ((cap_sound (P := P) (ty := type) hT hs (ht.opd' x) e).next).goodN hs
      simpa [execOp, resolve, invoke, builtin] using g
    case clear =>
      rcases ha : args.toList with _ | ⟨x, _ | ⟨y, r⟩⟩ <;> rcases hts : ats.toList with _ | ⟨t, _ | ⟨u, s⟩⟩ <;> simp only [ha, hts] at e <;> try (cases e; done)
      have h1 : args = #[x] := by apply Array.ext'; simpa using ha
      have h2 : ats = #[t] := by apply Array.ext'; simpa using hts
      subst h1; subst h2
      cases hx : opd x tm with
      | none =>
        exfalso
        unfold primClear at e
        rw [hx] at e
        cases hi : T.get t with
        | none => simp [hi] at e
        | some i =>
          simp only [hi] at e
          cases hk1 : Nat.beq i.kind 1 with
          | false => simp [hk1] at e
          | true =>
            simp only [hk1] at e
            cases hj : T.get i.elem <;> simp [hj] at e
      | some q =>
        rw [hx] at e
        have g := (clear_sound (P := P) (ty := type) hT hs (ht.opd hx) e).next
        simpa [execOp, resolve, invoke, builtin] using g

theorem prim_conv (hT : TOk P T) (hs : HS hp w F M) {tm : Tm} {a : Act} (ht : TS tm a w F M) (o : Oper) (hk : opKind o.op = .conv) {p : PV} {h : Hp} (e : prim T o.op hp tm = some (p, h)) :
    GoodNQ w F M ((execOp a.eval o).run P w) p hp h := by
  obtain ⟨dst, op, type, pos, after, guard⟩ := o
  cases op <;> simp only [prim] at e <;> try (first | (cases e; done) | (simp [opKind] at hk; done))
  case convert s d x => exact (conv_all hT hs (ht.opd' x) e).next
  case call c =>
    obtain ⟨callee, args, ats⟩ := c
    cases callee <;> simp only [opKind] at hk <;> try (cases hk; done)
    rename_i b
    cases b <;> simp at hk

theorem prim_conv_int (hT : TOk P T) {tm : Tm} {a : Act} (ht : TS tm a w F M) (o : Oper) (hk : opKind o.op = .conv) {k : IntKind} {n : Int} {h : Hp} (e : prim T o.op hp tm = some (.v (.int k n), h)) :
    GoodNQ w F M ((execOp a.eval o).run P w) (.v (.int k n)) hp h := by
  obtain ⟨dst, op, type, pos, after, guard⟩ := o
  cases op <;> simp only [prim] at e <;> try (first | (cases e; done) | (simp [opKind] at hk; done))
  case convert s d x => exact (conv_int hT (ht.opd' x) e).next
  case call c =>
    obtain ⟨callee, args, ats⟩ := c
    cases callee <;> simp only [opKind] at hk <;> try (cases hk; done)
    rename_i b
    cases b <;> simp at hk

/-- an operation that enters no function -/
theorem prim_sound (hT : TOk P T) (hs : HS hp w F M) {tm : Tm} {a : Act} (ht : TS tm a w F M) (o : Oper) {p : PV} {h : Hp} (e : prim T o.op hp tm = some (p, h)) :
    GoodN w F M ((execOp a.eval o).run P w) p h := by
  cases hk : opKind o.op with
  | bad => exact prim_bad hT hs ht o hk e
  | conv => exact (prim_conv hT hs ht o hk e).goodN hs
  | pure => exact (prim_pure hT ht o hk e).goodN hs
  | alloc => exact (prim_alloc hT ht o hk e).goodN hs
  | eff => exact prim_eff hT hs ht o hk e
  | load =>
    obtain ⟨t, x, q, h1, h2, h3, rfl⟩ := prim_load o hk e
    exact (load_sound hT hs ht h1 h2 h3).goodN hs
end
end Go.Ev

/- One operation of a region, as the evaluator takes it and as the code does; regions in the text's order. -/
namespace Go.Ev
variable [Env]
section
variable {P : Program} {T : Types} {w : World} {F : Fz} {M : Mp} {hp : Hp} {R : Type}

theorem Uni3.eq_of {A B C : Type} {a a' : A} {b b' : B} {c c' : C} (r : R) (h : ∀ k : A → B → C → Option R, k a b c = k a' b' c') : a = a' ∧ b = b' ∧ c = c' := by
  classical
  have := h fun x y z => if x = a ∧ y = b ∧ z = c then some r else none
  simp only [and_self, if_true] at this
  split at this
  · rename_i hh; exact ⟨hh.1.symm, hh.2.1.symm, hh.2.2.symm⟩
  · cases this

theorem Uni2.eq_of {A B : Type} {a a' : A} {b b' : B} (r : R) (h : ∀ k : A → B → Option R, k a b = k a' b') : a = a' ∧ b = b' := by
  classical
  have := h fun x y => if x = a ∧ y = b then some r else none
  simp only [and_self, if_true] at this
  split at this
  · rename_i hh; exact ⟨hh.1.symm, hh.2.symm⟩
  · cases this

theorem Uni.eq_of {A : Type} {a a' : A} (r : R) (h : ∀ k : A → Option R, k a = k a') : a = a' := by
  classical
  have := h fun x => if x = a then some r else none
  simp only [if_true] at this
  split at this
  · rename_i hh; exact hh.symm
  · cases this

/-- a function that is entered when it is called -/
def Enters (P : Program) (f : FuncId) : Prop := ∃ fn, P.funcs[f]? = some fn ∧ (fn.name == "runtime.NumGoroutine") = false ∧ fn.body.isNone = false

/-- values stand for values -/
def VRs (w : World) (F : Fz) (M : Mp) (l : List PV) (ys : List Value) : Prop :=
  ys.length = l.length ∧ ∀ (i : Nat) c y, l[i]? = some c → ys[i]? = some y → VR w F M c y

/-- what a call comes to -/
def CallPost (w : World) (F : Fz) (M : Mp) (p : PV) (h : Hp) : Ending → World → Prop := fun e w' =>
  ∃ v F' M', e = .returned v ∧ VR w' F' M' p v ∧ HS h w' F' M' ∧ Ext w w' F F' M M'

/-- a function is entered, or the model answers by itself -/
def Goes (P : Program) (f : FuncId) (args : Array Value) (w : World) (K : Ending → World → Prop) : Prop :=
  (Enters P f ∧ Calls P f args w K) ∨ ∃ v w', (callFunc f args).run P w = .ok (.value v) w' ∧ K (.returned v) w'

theorem callFunc_enters {f : FuncId} (h : Enters P f) (args : Array Value) (w : World) : (callFunc f args).run P w = .ok (.enter f args) w := by
  obtain ⟨fn, k1, k2, k3⟩ := h
  have k2' : ¬ (fn.name = "runtime.NumGoroutine") := by simpa using k2
  have k3' : ¬ (fn.body = none) := by intro h; rw [h] at k3; cases k3
  simp [callFunc, k1, k2', k3']

def SoundCall (P : Program) (call : CallK R) : Prop := ∀ f l hp p h, (∀ k, call f l hp k = k p h) →
  ∀ (w : World) (F : Fz) (M : Mp) (args : Array Value), HS hp w F M → VRs w F M l args.toList → Goes P f args w (CallPost w F M p h)

theorem evStep_inv (r : R) {call : CallK R} (hu : UniCall call) {nt : Nat} {all : List Oper} {o : Oper} {st : St} {b : Bool} {p : PV} {h : Hp}
    (e : ∀ next, evStep T nt all o call st next = next b p h) :
    dstOk nt o.dst = true ∧ wantedP all o st.tmps = some b ∧ ((b = false ∧ p = .un ∧ h = st.hp) ∨ (b = true ∧ ((enters o.op st.tmps = some none ∧ prim T o.op st.hp st.tmps = some (p, h)) ∨
      ∃ f l, enters o.op st.tmps = some (some (f, l)) ∧ ∀ k, call f l st.hp k = k p h))) := by
  have bad : (none : Option R) = some r → False := fun h => by cases h
  unfold evStep at e
  cases hd : dstOk nt o.dst with
  | false => simp only [hd] at e; exact (bad (e fun _ _ _ => some r)).elim
  | true =>
    simp only [hd] at e
    refine ⟨rfl, ?_⟩
    cases hw : wantedP all o st.tmps with
    | none => simp only [hw] at e; exact (bad (e fun _ _ _ => some r)).elim
    | some c =>
      simp only [hw] at e
      cases c with
      | false =>
        obtain ⟨h1, h2, h3⟩ := Uni3.eq_of r e
        subst h1; subst h2; subst h3
        exact ⟨rfl, .inl ⟨rfl, rfl, rfl⟩⟩
      | true =>
        simp only [] at e
        unfold evDo at e
        cases he : enters o.op st.tmps with
        | none => simp only [he] at e; exact (bad (e fun _ _ _ => some r)).elim
        | some q =>
          cases q with
          | none =>
            simp only [he] at e
            cases hp : prim T o.op st.hp st.tmps with
            | none => simp only [hp] at e; exact (bad (e fun _ _ _ => some r)).elim
            | some ph =>
              simp only [hp] at e
              obtain ⟨h1, h2, h3⟩ := Uni3.eq_of r e
              subst h1; subst h2; subst h3
              exact ⟨rfl, .inr ⟨rfl, .inl ⟨rfl, rfl⟩⟩⟩
          | some fl =>
            simp only [he] at e
            rcases hu fl.1 fl.2 st.hp with g | ⟨p', h', g⟩
            · have := e fun _ _ _ => some r
              rw [g] at this
              exact (bad this).elim
            · have e' : ∀ next : Bool → PV → Hp → Option R, next true p' h' = next b p h := fun next => by rw [← e next, g]
              obtain ⟨h1, h2, h3⟩ := Uni3.eq_of r e'
              subst h1; subst h2; subst h3
              exact ⟨rfl, .inr ⟨rfl, .inr ⟨fl.1, fl.2, rfl, g⟩⟩⟩

theorem wantedP_sound {ops : Array Oper} {tm : Tm} {a : Act} (ht : TS tm a w F M) {o : Oper} {b : Bool} (e : wantedP ops.toList o tm = some b) : Region.wanted o (yielded ops a.tmps) = b := by
  unfold wantedP at e
  unfold Region.wanted
  cases hg : o.guard with
  | none => simp only [hg] at e; cases e; rfl
  | some jw =>
    obtain ⟨j, want⟩ := jw
    simp only [hg] at e
    simp only []
    unfold dstAt at e
    cases ho : ops.toList[j]? with
    | none => simp [ho] at e
    | some g =>
      simp only [ho] at e
      cases hd : g.dst with
      | none => simp [hd] at e
      | some d =>
        simp only [hd] at e
        have ho' : ops[j]? = some g := by simpa using ho
        cases hp : Al.get tm d with
        | none => simp [hp, wantOf] at e
        | some p =>
          obtain ⟨hlt, hv⟩ := ht d p hp
          have hget : a.tmps[d]? = some (a.tmps.getD d undef) := by simp [hlt]
          simp only [yielded, ho', Option.bind_some, hd, hget]
          rw [hp] at e
          unfold wantOf at e
          split at e
          · rename_i c heq
            cases heq
            cases e
            generalize a.tmps.getD d undef = v at hv
            cases hv
            simp only [Bool.beq_eq_decide_eq]
            cases c <;> cases want <;> rfl
          · rename_i heq
            cases heq
            cases e
            generalize a.tmps.getD d undef = v at hv
            cases hv
            rfl
          · cases e

theorem put_size (a : Act) (dst : Option Nat) (v : Value) : (a.put dst v).tmps.size = a.tmps.size := by
  cases dst <;> simp [Act.put]
theorem put_defers (a : Act) (dst : Option Nat) (v : Value) : (a.put dst v).defers = a.defers := by
  cases dst <;> rfl

theorem TS.put {tm : Tm} {a : Act} (ht : TS tm a w F M) {dst : Option Nat} {nt : Nat} (hn : a.tmps.size = nt) (hd : dstOk nt dst = true) {p : PV} {v : Value} (hv : VR w F M p v) : TS (putT tm dst p) (a.put dst v) w F M := by
  cases dst with
  | none => exact ht
  | some d =>
    have hlt : d < a.tmps.size := by
      have := Nat.le_of_ble_eq_true hd
      omega
    intro t q hq
    simp only [putT, Al.get_cons] at hq
    simp only [Act.put, Array.size_setIfInBounds]
    by_cases h : d = t
    · subst h
      rw [if_pos rfl] at hq; cases hq
      exact ⟨hlt, by simpa [hlt] using hv⟩
    · rw [if_neg h] at hq
      obtain ⟨h1, h2⟩ := ht t q hq
      refine ⟨h1, ?_⟩
      have : (a.tmps.setIfInBounds d v).getD t undef = a.tmps.getD t undef := by
        simp [Array.getElem?_setIfInBounds_ne h]
      rw [this]; exact h2

/-- the callee that an operation enters -/
theorem enters_run {tm : Tm} {a : Act} (ht : TS tm a w F M) {o : Oper} {f : Nat} {l : List PV} (e : enters o.op tm = some (some (f, l))) :
    ∃ args : Array Value, VRs w F M l args.toList ∧ ∀ w', (execOp a.eval o).run P w' = (callFunc f args).run P w' := by
  obtain ⟨dst, op, type, pos, after, guard⟩ := o
  cases op <;> simp only [enters] at e <;> try (cases e; done)
  rename_i c
  obtain ⟨callee, args, ats⟩ := c
  cases callee <;> simp only [] at e <;> try (cases e; done)
  rename_i fo
  unfold entersOf at e
  split at e <;> try (cases e; done)
  all_goals rename_i n caps hfo
  case h_2 =>
    split at e
    · cases e
    · rename_i ls hls
      cases e
      have hv := ht.opd hfo
      obtain ⟨h1, h2⟩ := ht.opds hls
      generalize hfv : a.eval fo = fv at hv
      cases hv with
      | bnd g1 g2 =>
        rename_i ys
        refine ⟨ys.toArray ++ args.map a.eval, ⟨by simp at h1 ⊢; omega, ?_⟩, ?_⟩
        · intro i c y hc hy
          simp only [Array.toList_append, Array.toList_map] at hy
          rcases Nat.lt_or_ge i caps.length with hi | hi
          · rw [List.getElem?_append_left hi] at hc
            rw [List.getElem?_append_left (by omega)] at hy
            exact g2 i c y hc hy
          · rw [List.getElem?_append_right hi] at hc
            rw [List.getElem?_append_right (by omega)] at hy
            rw [g1] at hy
            exact h2 _ c y hc hy
        · intro w'
          simp [execOp, resolve, hfv, Deferred.ofValue, invoke]
  split at e
  · cases e
  · rename_i ls hls
    cases e
    have hv := ht.opd hfo
    obtain ⟨h1, h2⟩ := ht.opds hls
    generalize hfv : a.eval fo = fv at hv
    cases hv with
    | clo g1 g2 =>
      rename_i ys
      refine ⟨args.map a.eval ++ ys.toArray, ⟨by simp at h1 ⊢; omega, ?_⟩, ?_⟩
      · intro i c y hc hy
        simp only [Array.toList_append, Array.toList_map] at hy
        rcases Nat.lt_or_ge i ls.length with hi | hi
        · rw [List.getElem?_append_left hi] at hc
          rw [List.getElem?_append_left (by omega)] at hy
          exact h2 i c y hc hy
        · rw [List.getElem?_append_right hi] at hc
          rw [List.getElem?_append_right (by omega)] at hy
          rw [h1] at hy
          exact g2 _ c y hc hy
      · intro w'
        simp [execOp, resolve, hfv, Deferred.ofValue, invoke]

/-- one operation -/
theorem evStep_sound (r : R) (hT : TOk P T) {call : CallK R} (hu : UniCall call) (hc : SoundCall P call) {nt : Nat} {ops : Array Oper} {o : Oper} {st : St} {b : Bool} {p : PV} {h : Hp}
    (e : ∀ next, evStep T nt ops.toList o call st next = next b p h) {a : Act} (ht : TS st.tmps a w F M) (hs : HS st.hp w F M) (hn : a.tmps.size = nt) {K : Act → World → Prop} {Q : Exit → Act → World → Prop}
    (hk : ∀ w' F' M' a', TS (putT st.tmps o.dst p) a' w' F' M' → HS h w' F' M' → Ext w w' F F' M M' → a'.tmps.size = nt → a'.defers = a.defers → K a' w') :
    (if Region.wanted o (yielded ops a.tmps) then o.wp P a w K Q ∨ (o.asks P a w ∧ LetsOut Q) else K (a.put o.dst undef) w) := by
  obtain ⟨h1, h2, h3⟩ := evStep_inv r hu e
  rw [wantedP_sound ht h2]
  have fin : ∀ {w' F' M' v}, VR w' F' M' p v → HS h w' F' M' → Ext w w' F F' M M' → K (a.put o.dst v) w' := fun hv hs' hx =>
    hk _ _ _ _ ((ht.ext hx).put hn h1 hv) hs' hx (by rw [put_size, hn]) (put_defers _ _ _)
  rcases h3 with ⟨rfl, rfl, rfl⟩ | ⟨rfl, h3⟩
  · rw [if_neg (by simp)]
    exact fin .un hs (Ext.refl w F M)
  · rw [if_pos rfl]
    left
    unfold Oper.wp
    rcases h3 with ⟨_, h3⟩ | ⟨f, l, h3, h4⟩
    · obtain ⟨w', M', h5, h6, h7⟩ := prim_sound hT hs ht o h3
      rcases h5 with ⟨v, h5, h8⟩ | ⟨h5, rfl⟩
      · rw [h5]; exact fin h8 h6 h7
      · rw [h5]; exact fin .un h6 h7
    · obtain ⟨args, h7, h8⟩ := enters_run (P := P) ht h3
      rw [h8 w]
      rcases hc f l st.hp p h h4 w F M args hs h7 with ⟨h5, h6⟩ | ⟨v, w', h5, v', F', M', heq, g1, g2, g3⟩
      · rw [callFunc_enters h5]
        refine Calls.mono h6 ?_
        rintro e w' ⟨v, F', M', rfl, g1, g2, g3⟩
        exact fin g1 g2 g3
      · rw [h5]
        cases heq
        exact fin g1 g2 g3

/-- a region in the text's order -/
theorem evOps_sound (r : R) (hT : TOk P T) {call : CallK R} (hu : UniCall call) (hc : SoundCall P call) {nt : Nat} {ops : Array Oper} {st' : St} {Q : Exit → Act → World → Prop} :
    ∀ (l : List Oper) (st : St), (∀ k, evOps T nt ops.toList l call st k = k st') → ∀ (a : Act) (w : World) (F : Fz) (M : Mp), TS st.tmps a w F M → HS st.hp w F M → a.tmps.size = nt →
      (∀ w' F' M' a', TS st'.tmps a' w' F' M' → HS st'.hp w' F' M' → Ext w w' F F' M M' → a'.tmps.size = nt → a'.defers = a.defers → Q .normal a' w') → wpList P ops Q l a w
  | [], st, e, a, w, F, M, ht, hs, hn, hq => by
    have := Uni.eq_of r e
    subst this
    exact hq w F M a ht hs (Ext.refl w F M) hn rfl
  | o :: rest, st, e, a, w, F, M, ht, hs, hn, hq => by
    unfold evOps at e
    rcases evStep_uni (T := T) hu nt ops.toList o st with g | ⟨b, p, h, g⟩
    · have g' : ∀ k, evStep T nt ops.toList o call st k = none := g
      have := e fun _ => some r
      rw [g'] at this
      cases this
    · have g' : ∀ k, evStep T nt ops.toList o call st k = k b p h := g
      have e' : ∀ k, evOps T nt ops.toList rest call ⟨putT st.tmps o.dst p, h⟩ k = k st' := fun k => by rw [← e k, g']
      exact evStep_sound r hT hu hc g ht hs hn fun w' F' M' a' h1 h2 h3 h4 h5 =>
        evOps_sound r hT hu hc rest _ e' a' w' F' M' h1 h2 h4 fun w'' F'' M'' a'' k1 k2 k3 k4 k5 => hq w'' F'' M'' a'' k1 k2 (h3.trans k3) k4 (k5.trans h5)
end
end Go.Ev

/- Freezing: what a row holds, as a value of its own. -/
namespace Go.Ev
variable [Env]
section
variable {P : Program} {T : Types} {w : World} {M : Mp}

theorem freeze_cellOk : ∀ (n : Nat) (hp : Hp) (p q : PV) (h : Hp), freeze n hp p = some (q, h) → cellOk p = true → cellOk q = true
  | 0, _, _, _, _, e, _ => by simp [freeze] at e
  | n + 1, hp, p, q, h, e, hc => by
    cases p with
    | v x => simp only [freeze] at e; cases e; exact hc
    | un => cases hc
    | sym k => simp only [freeze] at e; cases e; exact hc
    | unk k => simp only [freeze] at e; cases e; exact hc
    | sl es ex => simp only [freeze] at e; cases e; exact hc
    | agg cs => cases hc
    | tup cs => cases hc
    | row id off len cap rs =>
      simp only [freeze] at e
      cases hg : hp.get id with
      | none => simp [hg] at e
      | some b =>
        simp only [hg] at e
        cases hcu : cut b.cells off (len * b.sz) with
        | none => simp [hcu] at e
        | some cs =>
          simp only [hcu] at e
          cases hf : freezeL n (hp.put id ⟨b.cells, b.sz, b.loose, Nat.max b.frz (off + len * b.sz), b.ty⟩) cs with
          | none => simp [hf] at e
          | some lh =>
            simp only [hf] at e
            cases hgr : group b.sz len lh.1 with
            | none => simp [hgr] at e
            | some es => simp only [hgr] at e; cases e; rfl
    | ptr id off => simp [freeze] at e
    | ep cs off => simp [freeze] at e
    | clo f c => simp [freeze] at e
    | bnd f c => simp [freeze] at e
    | mp id => simp [freeze] at e
    | top => simp [freeze] at e

theorem group_spec {sz : Nat} : ∀ {n : Nat} {l : List PV} {es : List (List PV)}, group sz n l = some es → es.length = n ∧ (∀ e ∈ es, e.length = sz) ∧ ∀ (i j : Nat) e c, es[i]? = some e → e[j]? = some c → l[i * sz + j]? = some c
  | 0, l, es, h => by simp [group] at h; subst h; simp
  | n + 1, l, es, h => by
    unfold group at h
    cases ht : takeN l sz with
    | none => simp [ht] at h
    | some e =>
      simp only [ht] at h
      cases hg : group sz n (l.drop sz) with
      | none => simp [hg] at h
      | some r =>
        simp only [hg] at h; cases h
        obtain ⟨h1, h2⟩ := takeN_spec ht
        obtain ⟨g1, g2, g3⟩ := group_spec hg
        refine ⟨by simp [g1], ?_, ?_⟩
        · intro x hx
          cases hx with
          | head => rw [h1]; simp; omega
          | tail _ hx => exact g2 x hx
        · intro i j x c hx hc
          cases i with
          | zero =>
            simp at hx; subst hx
            rw [h1, List.getElem?_take] at hc
            split at hc
            · simpa using hc
            · cases hc
          | succ i =>
            simp only [List.getElem?_cons_succ] at hx
            have := g3 i j x c hx hc
            rw [List.getElem?_drop] at this
            rw [show (i + 1) * sz + j = sz + (i * sz + j) by rw [Nat.add_mul]; omega]
            exact this

/-- more cells of a block are closed -/
theorem HS.close {hp : Hp} {F : Fz} (hs : HS hp w F M) {id : Nat} {b : Blk} {p : Pl} (hg : hp.get id = some b) (hm : M id = some p) (lo hi : Nat) (hhi : hi ≤ b.cells.length) :
    let F' : Fz := fun x o => F x o ∨ (x = p.b ∧ p.sh + lo ≤ o ∧ o < p.sh + hi)
    HS (hp.put id ⟨b.cells, b.sz, b.loose, Nat.max b.frz hi, b.ty⟩) w F' M ∧ Ext w w F F' M M := by
  intro F'
  have br := hs.br id b p hg hm
  have hcell : ∀ x o, F x o → w.cell? ⟨x, o, none⟩ = w.cell? ⟨x, o, none⟩ := fun _ _ _ => rfl
  have hF : ∀ x o, F x o → F' x o := fun _ _ h => .inl h
  refine ⟨⟨?_, ?_, hs.lt, ?_, ?_, hs.ms.mono (Nat.le_refl _) (fun _ _ => rfl) hF hcell (fun _ _ h => h) fun _ _ _ h => h⟩, ⟨rfl, rfl, rfl, Nat.le_refl _, fun _ _ _ => rfl, hcell, fun _ _ h => h, hF, fun _ _ h => .inl h, ?_⟩⟩
  · intro i b' q hgi hmi
    rw [Hp.get_put] at hgi
    by_cases hi' : i = id
    · subst hi'
      rw [if_pos rfl, hg] at hgi
      simp only [Option.map_some] at hgi; cases hgi
      rw [hm] at hmi; cases hmi
      obtain ⟨c, e, h1, h2, h3, h4⟩ := br.blk
      refine ⟨br.n, br.sz, br.loose, ⟨c, e, h1, h2, h3, fun o x hx => ?_⟩, ?_, br.ty⟩
      · obtain ⟨k1, y, k2, k3⟩ := h4 o x hx
        exact ⟨k1, y, k2, k3.mono hF hcell fun _ _ h => h⟩
      · intro o ho hf
        simp only at ho
        have hmx1 : b.frz ≤ Nat.max b.frz hi := Nat.le_max_left _ _
        have hmx2 : hi ≤ Nat.max b.frz hi := Nat.le_max_right _ _
        rcases hf with hf | ⟨_, _, hf⟩
        · exact br.nf o (by omega) hf
        · omega
    · rw [if_neg hi'] at hgi
      have br' := hs.br i b' q hgi hmi
      have hne : q.b ≠ p.b := fun hb => hi' (hs.inj i id b' b q p hgi hg hmi hm hb)
      obtain ⟨c, e, h1, h2, h3, h4⟩ := br'.blk
      refine ⟨br'.n, br'.sz, br'.loose, ⟨c, e, h1, h2, h3, fun o x hx => ?_⟩, ?_, br'.ty⟩
      · obtain ⟨k1, y, k2, k3⟩ := h4 o x hx
        exact ⟨k1, y, k2, k3.mono hF hcell fun _ _ h => h⟩
      · intro o ho hf
        rcases hf with hf | ⟨hb, _⟩
        · exact br'.nf o ho hf
        · exact hne hb
  · intro i j bi bj q r h1 h2 h3 h4 h5
    have hsome : ∀ i b', (hp.put id ⟨b.cells, b.sz, b.loose, Nat.max b.frz hi, b.ty⟩).get i = some b' → ∃ b'', hp.get i = some b'' := by
      intro i b' h
      rw [Hp.get_put] at h
      split at h
      · subst_vars; exact ⟨b, hg⟩
      · exact ⟨b', h⟩
    obtain ⟨bi', h1'⟩ := hsome i bi h1
    obtain ⟨bj', h2'⟩ := hsome j bj h2
    exact hs.inj i j bi' bj' q r h1' h2' h3 h4 h5
  · intro i b' h
    rw [Hp.get_put] at h
    split at h
    · subst_vars; exact hs.fresh _ _ hg
    · exact hs.fresh _ _ h
  · intro x o h
    rcases h with h | ⟨rfl, _⟩
    · exact hs.fw x o h
    · exact (hs.lt id p hm).2
  · intro x o h
    rcases h with h | ⟨rfl, _⟩
    · exact .inl h
    · exact .inr (.inr ⟨id, p, hm, rfl⟩)

theorem VRs.ext {w' : World} {F F' : Fz} {M M' : Mp} {l : List PV} {ys : List Value} (h : VRs w F M l ys) (k : Ext w w' F F' M M') : VRs w' F' M' l ys :=
  ⟨h.1, fun i c y h1 h2 => (h.2 i c y h1 h2).ext k⟩

theorem VR.grow {w' : World} {F F' : Fz} {M' : Mp} {p : PV} {v : Value} (h : VR w F noMap p v) (k : Ext w w' F F' M M') : VR w' F' noMap p v :=
  h.mono k.mF k.cell fun _ _ h => h

mutual
theorem freeze_sound : ∀ (n : Nat) (hp : Hp) (p q : PV) (h : Hp), freeze n hp p = some (q, h) → ∀ (F : Fz) (v : Value), HS hp w F M → VR w F M p v →
    ∃ F', HS h w F' M ∧ Ext w w F F' M M ∧ VR w F' noMap q v
  | 0, _, _, _, _, e, _, _, _, _ => by simp [freeze] at e
  | n + 1, hp, p, q, h, e, F, v, hs, hv => by
    cases p with
    | v x =>
      simp only [freeze] at e; cases e
      cases hv with
      | v hx => exact ⟨F, hs, Ext.refl w F M, .v hx⟩
    | un =>
      simp only [freeze] at e; cases e
      cases hv
      exact ⟨F, hs, Ext.refl w F M, .un⟩
    | sym k =>
      simp only [freeze] at e; cases e
      cases hv
      exact ⟨F, hs, Ext.refl w F M, .sym⟩
    | unk k =>
      simp only [freeze] at e; cases e
      cases hv with
      | unk hv => exact ⟨F, hs, Ext.refl w F M, .unk hv⟩
    | sl es ex =>
      simp only [freeze] at e; cases e
      cases hv with
      | sl h1 h2 h3 h4 h5 => exact ⟨F, hs, Ext.refl w F M, .sl h1 h2 h3 h4 h5⟩
    | agg cs =>
      simp only [freeze] at e
      cases hf : freezeL n hp cs with
      | none => simp [hf] at e
      | some lh =>
        simp only [hf] at e; cases e
        cases hv with
        | agg h1 h2 h3 =>
          obtain ⟨F', g1, g2, g3, g4⟩ := freezeL_sound n hp cs lh.1 lh.2 hf F _ hs ⟨h1, h3⟩
          exact ⟨F', g1, g2, .agg g3.1 (fun i c hc => g4 i c hc h2) g3.2⟩
    | tup cs =>
      simp only [freeze] at e
      cases hf : freezeL n hp cs with
      | none => simp [hf] at e
      | some lh =>
        simp only [hf] at e; cases e
        cases hv with
        | tup h1 h3 =>
          obtain ⟨F', g1, g2, g3, _⟩ := freezeL_sound n hp cs lh.1 lh.2 hf F _ hs ⟨h1, h3⟩
          exact ⟨F', g1, g2, .tup g3.1 g3.2⟩
    | row id off len cap rs =>
      simp only [freeze] at e
      cases hg : hp.get id with
      | none => simp [hg] at e
      | some b =>
        simp only [hg] at e
        cases hcu : cut b.cells off (len * b.sz) with
        | none => simp [hcu] at e
        | some cs =>
          simp only [hcu] at e
          cases hf : freezeL n (hp.put id ⟨b.cells, b.sz, b.loose, Nat.max b.frz (off + len * b.sz), b.ty⟩) cs with
          | none => simp [hf] at e
          | some lh =>
            simp only [hf] at e
            cases hgr : group b.sz len lh.1 with
            | none => simp [hgr] at e
            | some es =>
              simp only [hgr] at e; cases e
              cases hv with
              | row hm h0 h1 h2 h3 =>
                rename_i cap' p
                have br := hs.br id b p hg hm
                obtain ⟨q1, q2⟩ := cut_spec hcu
                have hcl : off + len * b.sz ≤ b.cells.length := by
                  have : len * p.sz ≤ cap * p.sz := Nat.mul_le_mul_right _ h1
                  have := br.n; rw [← br.sz]; omega
                obtain ⟨c1, c2⟩ := hs.close hg hm off (off + len * b.sz) hcl
                obtain ⟨ys, r1, r2, r3⟩ := hs.read hg hm hcu
                obtain ⟨F', g1, g2, g3, g4⟩ := freezeL_sound n _ cs lh.1 lh.2 hf _ ys c1 (VRs.ext ⟨r1.1, fun i c y hc hy => (r1.2 i c y hc hy).2⟩ c2)
                obtain ⟨s1, s2, s3⟩ := group_spec hgr
                refine ⟨F', g1, c2.trans g2, ?_⟩
                have hlen : lh.1.length = cs.length := by rw [← g3.1, r1.1]
                have hcs : cs.length = len * b.sz := by rw [q1]; simp; omega
                have key : ∀ (i j : Nat) el c, es[i]? = some el → el[j]? = some c → i * b.sz + j < len * b.sz ∧ lh.1[i * b.sz + j]? = some c := by
                  intro i j el c h1 h2
                  have := s3 i j el c h1 h2
                  have hlt := (List.getElem?_eq_some_iff.1 this).1
                  exact ⟨by omega, this⟩
                have hres := VR.sl (w := w) (F := F') (M := noMap) (es := es) (ex := Nat.beq len cap && (!b.loose || Nat.blt (off + cap * b.sz) b.cells.length)) (b := p.b) (o := p.sh + off) (cap := cap') (sz := b.sz) (f := fun i j => ys.getD (i * b.sz + j) undef)
                  (by
                    intro hx
                    simp only [Bool.and_eq_true] at hx
                    have hlc := Nat.eq_of_beq_eq_true hx.1
                    rcases h3 with h3 | ⟨h3, h4, h5, h6⟩
                    · omega
                    · rw [br.loose] at h3
                      have hx2 := hx.2
                      simp only [h3, Bool.not_true, Bool.false_or] at hx2
                      have := Nat.le_of_ble_eq_true hx2
                      rw [br.n, br.sz] at h4
                      omega)
                  (by rcases h3 with h3 | ⟨h3, h4, h5, h6⟩ <;> omega)
                  (fun i el h => s2 el (List.mem_of_getElem? h))
                  (by
                    intro i j el c h1 h2
                    obtain ⟨k1, k2⟩ := key i j el c h1 h2
                    have hy : ys[i * b.sz + j]? = some (ys.getD (i * b.sz + j) undef) := by
                      have : i * b.sz + j < ys.length := by omega
                      simp [this]
                    refine ⟨g4 _ c k2 (fun i c hc => by
                        obtain ⟨y, hy'⟩ : ∃ y, ys[i]? = some y := by
                          have := (List.getElem?_eq_some_iff.1 hc).1
                          rw [← r1.1] at this
                          exact ⟨_, List.getElem?_eq_getElem this⟩
                        exact (r1.2 i c y hc hy').1), ?_, ?_⟩
                    · exact g2.mF _ _ (.inr ⟨rfl, by omega, by omega⟩)
                    · rw [Nat.add_assoc]; exact r3 _ _ hy)
                  (by
                    intro i j el c h1 h2
                    obtain ⟨k1, k2⟩ := key i j el c h1 h2
                    have hy : ys[i * b.sz + j]? = some (ys.getD (i * b.sz + j) undef) := by
                      have : i * b.sz + j < ys.length := by omega
                      simp [this]
                    exact g3.2 _ c _ k2 hy)
                rw [s1] at hres
                exact hres
    | ptr id off => simp [freeze] at e
    | ep cs off => simp [freeze] at e
    | clo f c => simp [freeze] at e
    | bnd f c => simp [freeze] at e
    | mp id => simp [freeze] at e
    | top => simp [freeze] at e
theorem freezeL_sound : ∀ (n : Nat) (hp : Hp) (l m : List PV) (h : Hp), freezeL n hp l = some (m, h) → ∀ (F : Fz) (ys : List Value), HS hp w F M → VRs w F M l ys →
    ∃ F', HS h w F' M ∧ Ext w w F F' M M ∧ VRs w F' noMap m ys ∧ ∀ (i : Nat) c, m[i]? = some c → (∀ (i : Nat) c, l[i]? = some c → cellOk c = true) → cellOk c = true
  | 0, _, _, _, _, e, _, _, _, _ => by simp [freezeL] at e
  | n + 1, hp, [], m, h, e, F, ys, hs, hv => by
    simp only [freezeL] at e; cases e
    exact ⟨F, hs, Ext.refl w F M, ⟨hv.1, fun i c y hc => by simp at hc⟩, fun i c hc => by simp at hc⟩
  | n + 1, hp, x :: l, m, h, e, F, ys, hs, hv => by
    simp only [freezeL] at e
    cases hf : freeze n hp x with
    | none => simp [hf] at e
    | some yh =>
      simp only [hf] at e
      cases hl : freezeL n yh.2 l with
      | none => simp [hl] at e
      | some mh =>
        simp only [hl] at e; cases e
        cases ys with
        | nil => have := hv.1; simp at this
        | cons y ys =>
          obtain ⟨F1, g1, g2, g3⟩ := freeze_sound n hp x yh.1 yh.2 hf F y hs (hv.2 0 x y rfl rfl)
          have hv' : VRs w F M l ys := ⟨by have := hv.1; simpa using this, fun i c z hc hz => hv.2 (i + 1) c z (by simpa using hc) (by simpa using hz)⟩
          obtain ⟨F2, k1, k2, k3, k4⟩ := freezeL_sound n yh.2 l mh.1 mh.2 hl F1 ys g1 (hv'.ext g2)
          refine ⟨F2, k1, g2.trans k2, ⟨by have := k3.1; simpa using this, ?_⟩, ?_⟩
          · intro i c z hc hz
            cases i with
            | zero => simp at hc hz; subst hc; subst hz; exact g3.grow k2
            | succ i => exact k3.2 i c z (by simpa using hc) (by simpa using hz)
          · intro i c hc hall
            cases i with
            | zero => simp at hc; subst hc; exact freeze_cellOk n hp x yh.1 yh.2 hf (hall 0 x rfl)
            | succ i => exact k4 i c (by simpa using hc) fun i c hc => hall (i + 1) c (by simpa using hc)
end
theorem freeze_top : ∀ (n : Nat) (hp : Hp) (p : PV) (h : Hp), freeze n hp p = some (.top, h) → False
  | 0, _, _, _, e => by simp [freeze] at e
  | n + 1, hp, p, h, e => by
    cases p with
    | v x => simp only [freeze] at e; cases e
    | un => simp only [freeze] at e; cases e
    | sym k => simp only [freeze] at e; cases e
    | unk k => simp only [freeze] at e; cases e
    | sl es ex => simp only [freeze] at e; cases e
    | agg cs =>
      simp only [freeze] at e
      cases hf : freezeL n hp cs with
      | none => simp [hf] at e
      | some lh => simp only [hf] at e; cases e
    | tup cs =>
      simp only [freeze] at e
      cases hf : freezeL n hp cs with
      | none => simp [hf] at e
      | some lh => simp only [hf] at e; cases e
    | row id off len cap rs =>
      simp only [freeze] at e
      cases hg : hp.get id with
      | none => simp [hg] at e
      | some b =>
        simp only [hg] at e
        cases hcu : cut b.cells off (len * b.sz) with
        | none => simp [hcu] at e
        | some cs =>
          simp only [hcu] at e
          cases hf : freezeL n (hp.put id ⟨b.cells, b.sz, b.loose, Nat.max b.frz (off + len * b.sz), b.ty⟩) cs with
          | none => simp [hf] at e
          | some lh =>
            simp only [hf] at e
            cases hgr : group b.sz len lh.1 with
            | none => simp [hgr] at e
            | some es => simp only [hgr] at e; cases e
    | ptr id off => simp [freeze] at e
    | ep cs off => simp [freeze] at e
    | clo f c => simp [freeze] at e
    | bnd f c => simp [freeze] at e
    | mp id => simp [freeze] at e
    | top => simp [freeze] at e

theorem freezeL_unKey : ∀ {n : Nat} {hp : Hp} {l m : List PV} {h : Hp}, freezeL n hp l = some (m, h) → unKey m = none
  | 0, _, _, _, _, e => by simp [freezeL] at e
  | n + 1, hp, [], m, h, e => by simp only [freezeL] at e; cases e; rfl
  | n + 1, hp, x :: l, m, h, e => by
    simp only [freezeL] at e
    cases hf : freeze n hp x with
    | none => simp [hf] at e
    | some yh =>
      simp only [hf] at e
      cases hl : freezeL n yh.2 l with
      | none => simp [hl] at e
      | some mh =>
        simp only [hl] at e
        cases e
        unfold unKey
        split
        · rename_i heq
          injection heq with h1 h2
          exact (freeze_top n hp x yh.2 (by rw [hf, ← h1])).elim
        · rfl
end
end Go.Ev

/- Control and calls: what the evaluator comes to, the code comes to. -/
namespace Go.Ev
variable [Env]
section
variable {P : Program} {T : Types} {R : Type}

def Ex.toExit : Ex → Exit
  | .normal => .normal
  | .exit i => .exit i
  | .ret => .ret

/-- what stands behind a piece of code -/
def Behind (nt : Nat) (st' : St) (w : World) (F : Fz) (M : Mp) (a : Act) (K : Act → World → Prop) : Prop :=
  ∀ w' F' M' a', TS st'.tmps a' w' F' M' → HS st'.hp w' F' M' → Ext w w' F F' M M' → a'.tmps.size = nt → a'.defers = a.defers → K a' w'

theorem Behind.trans {nt : Nat} {st' : St} {w w1 : World} {F F1 : Fz} {M M1 : Mp} {a a1 : Act} {K : Act → World → Prop} (h : Behind nt st' w F M a K) (hx : Ext w w1 F F1 M M1) (hd : a1.defers = a.defers) :
    Behind nt st' w1 F1 M1 a1 K := fun w' F' M' a' h1 h2 h3 h4 h5 => h w' F' M' a' h1 h2 (hx.trans h3) h4 (h5.trans hd)

/-- regions that draw their order -/
def DrawSound (P : Program) (T : Types) (R : Type) : Prop := ∀ (call : CallK R), UniCall call → SoundCall P call → ∀ (nt id : Nat) (ops : Array Oper) (L : List (Nat × Nat)) (st st' : St), schedOk ops.toList L = true →
  (∀ k, evOpsD T nt ops.toList L ⟨[], [], []⟩ call st k = k st') → ∀ (a : Act) (w : World) (F : Fz) (M : Mp) (Q : Exit → Act → World → Prop), TS st.tmps a w F M → HS st.hp w F M → a.tmps.size = nt →
    Behind nt st' w F M a (Q .normal) → (Code.region id ops true).wp P Q a w

/-- what is known of the functions that are run -/
def FTOk (P : Program) (FT : Fns) : Prop := ∀ f fi, FT.get f = some fi → P.funcs[f]? = some fi.fn ∧ (fi.fn.name == "runtime.NumGoroutine") = false ∧ (∀ c, fi.fn.body = some c → codeOk fi c = true) ∧ (fi.fn.body = none → Extern.findNext fi.fn = none ∧ (fi.frz = false → Extern.find fi.fn = some Extern.AbiNoEscape.same) ∧ (fi.frz = true → Extern.find fi.fn = some Extern.BytealgCompare.compare))

/-- the function f, called with values of its own ds, answers q -/
def Known (P : Program) (f : Nat) (ds : List PV) (q : PV) : Prop := Enters P f ∧ ∀ (w : World) (F : Fz) (args : Array Value), (∀ b o, F b o → b < w.heap.size) → VRs w F noMap ds args.toList →
  Calls P f args w fun e w' => ∃ v F', e = .returned v ∧ VR w' F' noMap q v ∧ (∀ b o, F' b o → b < w'.heap.size) ∧ Ext w w' F F' noMap noMap

/-- the function f, called with a pointer to a block of the cells cs and with values of its own ds, answers q and leaves the cells cs' there -/
def KnownS (P : Program) (f ty : Nat) (cs ds : List PV) (q : PV) (cs' : List PV) : Prop := Enters P f ∧ ∀ (w : World) (F : Fz) (p : Pl) (args : Array Value),
  HS ⟨[(0, ⟨cs, cs.length, false, 0, ty⟩)], 1, []⟩ w F (noMap.up 0 p) → VRs w F (noMap.up 0 p) (.ptr 0 0 :: ds) args.toList →
  Calls P f args w fun e w' => ∃ v F', e = .returned v ∧ VR w' F' noMap q v ∧ HS ⟨[(0, ⟨cs', cs.length, false, 0, ty⟩)], 1, []⟩ w' F' (noMap.up 0 p) ∧ Ext w w' F F' (noMap.up 0 p) (noMap.up 0 p)

/-- an answer of the oracle is right -/
def KnownX (P : Program) (f : Nat) (ds : List PV) (q : PV) : Prop := match unKey ds with
  | some (ty, cs, r) => ∃ q1 cs', q = .tup [q1, .tup cs'] ∧ KnownS P f ty cs r q1 cs'
  | none => Known P f ds q

/-- the answers that are known already -/
def OrcOk (P : Program) (O : Orc) : Prop := ∀ f ds q, O f ds = some q → KnownX P f ds q

theorem TS.keep {tm : Tm} {a : Act} {w : World} {F : Fz} {M : Mp} (h : TS tm a w F M) (ks : List Nat) : TS (Al.keep tm ks) a w F M := fun t p hp => h t p (Al.get_keep tm ks t p hp)

theorem HS.killAll {w : World} {F : Fz} {M : Mp} (tm : Tm) : ∀ (l : List Nat) {hp : Hp}, HS hp w F M → HS (killAll tm l hp) w F M
  | [], _, h => h
  | t :: r, hp, h => by
    unfold Ev.killAll
    split
    · exact HS.killAll tm r (h.kill _)
    · exact HS.killAll tm r (h.kill _)
    · exact HS.killAll tm r h
theorem HS.swept {w : World} {F : Fz} {M : Mp} (kl : Option (List Nat)) (tm : Tm) {hp : Hp} (h : HS hp w F M) : HS (swept kl tm hp) w F M := by
  cases kl with
  | none => exact h
  | some l => exact h.killAll tm l

theorem kept_st (r : R) {x : (St → Option R) → Option R} (hu : Uni x) {ks kl : Option (List Nat)} {ex : Ex} {st' : St} (e : ∀ k, x (kept ks kl k) = k ex st') :
    ex = .normal ∧ ∃ s, (∀ k, x k = k s) ∧ (∀ {w : World} {F : Fz} {M : Mp}, HS s.hp w F M → HS st'.hp w F M) ∧ ∀ {a : Act} {w : World} {F : Fz} {M : Mp}, TS s.tmps a w F M → TS st'.tmps a w F M := by
  rcases hu with g | ⟨s, g⟩
  · have := e fun _ _ => some r
    rw [g] at this; cases this
  · cases ks with
    | none =>
      have e' : ∀ k : Ex → St → Option R, k .normal ⟨s.tmps, swept kl s.tmps s.hp⟩ = k ex st' := fun k => by rw [← e k, g]; rfl
      obtain ⟨h1, h2⟩ := Uni2.eq_of r e'
      subst h1; subst h2
      exact ⟨rfl, s, g, fun h => h.swept kl s.tmps, fun h => h⟩
    | some ks =>
      have e' : ∀ k : Ex → St → Option R, k .normal ⟨Al.keep s.tmps ks, swept kl s.tmps s.hp⟩ = k ex st' := fun k => by rw [← e k, g]; rfl
      obtain ⟨h1, h2⟩ := Uni2.eq_of r e'
      subst h1; subst h2
      exact ⟨rfl, s, g, fun h => h.swept kl s.tmps, fun h => h.keep ks⟩

theorem exists_least {p : Nat → Prop} (h : ∃ n, p n) : ∃ n, p n ∧ ∀ m, p m → n ≤ m := by
  obtain ⟨n, hn⟩ := h
  induction n using Nat.strongRecOn with
  | _ n ih =>
    by_cases hs : ∃ m, m < n ∧ p m
    · obtain ⟨m, h1, h2⟩ := hs
      exact ih m h1 h2
    · refine ⟨n, hn, fun m hm => ?_⟩
      rcases Nat.lt_or_ge m n with h | h
      · exact (hs ⟨m, h, hm⟩).elim
      · exact h

theorem evC_sound (r : R) (hT : TOk P T) (hD : DrawSound P T R) {FT : Fns} {O : Orc} (fi : FI) (m : Nat) (hcs : ∀ m', m' ≤ m → SoundCall P (callF (R := R) T FT O (run T FT O m'))) :
    ∀ (c : Code), codeOk fi c = true → ∀ m', m' ≤ m → ∀ (st : St) (ex : Ex) (st' : St), (∀ k, evC (R := R) T fi c (callF T FT O (run T FT O m')) (run T FT O m') st k = k ex st') →
      ∀ (a : Act) (w : World) (F : Fz) (M : Mp) (Q : Exit → Act → World → Prop), TS st.tmps a w F M → HS st.hp w F M → a.tmps.size = fi.fn.ntmps → Behind fi.fn.ntmps st' w F M a (Q ex.toExit) → c.wp P Q a w
  | .skip, _, m', hm, st, ex, st', e, a, w, F, M, Q, ht, hs, hn, hq => by
    obtain ⟨rfl, rfl⟩ := Uni2.eq_of r e
    exact wp_skip (hq w F M a ht hs (Ext.refl w F M) hn rfl)
  | .exit id, _, m', hm, st, ex, st', e, a, w, F, M, Q, ht, hs, hn, hq => by
    obtain ⟨rfl, rfl⟩ := Uni2.eq_of r e
    exact wp_exit (hq w F M a ht hs (Ext.refl w F M) hn rfl)
  | .ret, _, m', hm, st, ex, st', e, a, w, F, M, Q, ht, hs, hn, hq => by
    obtain ⟨rfl, rfl⟩ := Uni2.eq_of r e
    exact wp_ret (hq w F M a ht hs (Ext.refl w F M) hn rfl)
  | .region id ops draw, hok, m', hm, st, ex, st', e, a, w, F, M, Q, ht, hs, hn, hq => by
    have hu : UniCall (callF (R := R) T FT O (run T FT O m')) := callF_uni (run_uni FT O m') FT O
    unfold evC at e
    cases draw with
    | false =>
      simp only [] at e
      obtain ⟨rfl, s, h1, h2, h3⟩ := kept_st r (evOps_uni hu _ _ _ _) e
      exact wp_region_list (evOps_sound r hT hu (hcs m' hm) _ st h1 a w F M ht hs hn fun w' F' M' a' g1 g2 g3 g4 g5 => hq w' F' M' a' (h3 g1) (h2 g2) g3 g4 g5)
    | true =>
      simp only [] at e
      cases hl : fi.sched.get id with
      | none =>
        simp only [hl] at e
        have := e fun _ _ => some r
        cases this
      | some L =>
        simp only [hl] at e
        simp only [codeOk, hl] at hok
        obtain ⟨rfl, s, h1, h2, h3⟩ := kept_st r (evOpsD_uni hu _ _ _ _ _) e
        exact hD _ hu (hcs m' hm) _ id ops L st s hok h1 a w F M Q ht hs hn fun w' F' M' a' g1 g2 g3 g4 g5 => hq w' F' M' a' (h3 g1) (h2 g2) g3 g4 g5
  | .seq x y, hok, m', hm, st, ex, st', e, a, w, F, M, Q, ht, hs, hn, hq => by
    simp only [codeOk, Bool.and_eq_true] at hok
    have hu : UniCall (callF (R := R) T FT O (run T FT O m')) := callF_uni (run_uni FT O m') FT O
    unfold evC at e
    rcases evC_uni (T := T) hu (run_uni FT O m') fi x st with g | ⟨ex1, st1, g⟩
    · have g' : ∀ k, evC (R := R) T fi x (callF T FT O (run T FT O m')) (run T FT O m') st k = none := g
      have := e fun _ _ => some r
      rw [g'] at this; cases this
    · have g' : ∀ k, evC (R := R) T fi x (callF T FT O (run T FT O m')) (run T FT O m') st k = k ex1 st1 := g
      refine wp_seq (evC_sound r hT hD fi m hcs x hok.1 m' hm st ex1 st1 g' a w F M _ ht hs hn ?_)
      intro w1 F1 M1 a1 h1 h2 h3 h4 h5
      cases ex1 with
      | normal =>
        have e' : ∀ k, evC (R := R) T fi y (callF T FT O (run T FT O m')) (run T FT O m') st1 k = k ex st' := fun k => by rw [← e k, g']; rfl
        exact evC_sound r hT hD fi m hcs y hok.2 m' hm st1 ex st' e' a1 w1 F1 M1 Q h1 h2 h4 (hq.trans h3 h5)
      | exit i =>
        have e' : ∀ k : Ex → St → Option R, k (.exit i) st1 = k ex st' := fun k => by rw [← e k, g']; rfl
        obtain ⟨rfl, rfl⟩ := Uni2.eq_of r e'
        exact hq w1 F1 M1 a1 h1 h2 h3 h4 h5
      | ret =>
        have e' : ∀ k : Ex → St → Option R, k .ret st1 = k ex st' := fun k => by rw [← e k, g']; rfl
        obtain ⟨rfl, rfl⟩ := Uni2.eq_of r e'
        exact hq w1 F1 M1 a1 h1 h2 h3 h4 h5
  | .cond c x y, hok, m', hm, st, ex, st', e, a, w, F, M, Q, ht, hs, hn, hq => by
    simp only [codeOk, Bool.and_eq_true] at hok
    unfold evC at e
    cases ho : opd c st.tmps with
    | none =>
      simp only [ho] at e
      have := e fun _ _ => some r
      cases this
    | some p =>
      simp only [ho] at e
      have hv := ht.opd ho
      split at e
      · rename_i heq
        cases heq
        generalize hcv : a.eval c = v at hv
        cases hv
        exact wp_cond_true hcv (evC_sound r hT hD fi m hcs x hok.1 m' hm st ex st' e a w F M Q ht hs hn hq)
      · rename_i heq
        cases heq
        generalize hcv : a.eval c = v at hv
        cases hv
        exact wp_cond_false hcv (evC_sound r hT hD fi m hcs y hok.2 m' hm st ex st' e a w F M Q ht hs hn hq)
      · have := e fun _ _ => some r
        cases this
  | .block id c, hok, m', hm, st, ex, st', e, a, w, F, M, Q, ht, hs, hn, hq => by
    simp only [codeOk] at hok
    have hu : UniCall (callF (R := R) T FT O (run T FT O m')) := callF_uni (run_uni FT O m') FT O
    unfold evC at e
    rcases evC_uni (T := T) hu (run_uni FT O m') fi c st with g | ⟨ex1, st1, g⟩
    · have g' : ∀ k, evC (R := R) T fi c (callF T FT O (run T FT O m')) (run T FT O m') st k = none := g
      have := e fun _ _ => some r
      rw [g'] at this; cases this
    · have g' : ∀ k, evC (R := R) T fi c (callF T FT O (run T FT O m')) (run T FT O m') st k = k ex1 st1 := g
      have e' : ∀ k : Ex → St → Option R, blockK id k ex1 st1 = k ex st' := fun k => by rw [← e k, g']
      refine wp_block (evC_sound r hT hD fi m hcs c hok m' hm st ex1 st1 g' a w F M _ ht hs hn ?_)
      intro w1 F1 M1 a1 h1 h2 h3 h4 h5
      cases ex1 with
      | normal =>
        obtain ⟨rfl, rfl⟩ := Uni2.eq_of r e'
        exact hq w1 F1 M1 a1 h1 h2 h3 h4 h5
      | ret =>
        obtain ⟨rfl, rfl⟩ := Uni2.eq_of r e'
        exact hq w1 F1 M1 a1 h1 h2 h3 h4 h5
      | exit i =>
        simp only [Ex.toExit, Exit.inBlock]
        cases hi : Nat.beq i id with
        | true =>
          simp only [blockK, hi] at e'
          obtain ⟨rfl, rfl⟩ := Uni2.eq_of r e'
          rw [if_pos (Nat.eq_of_beq_eq_true hi)]
          exact hq w1 F1 M1 a1 h1 h2 h3 h4 h5
        | false =>
          simp only [blockK, hi] at e'
          obtain ⟨rfl, rfl⟩ := Uni2.eq_of r e'
          rw [if_neg (fun h => by subst h; simp at hi)]
          exact hq w1 F1 M1 a1 h1 h2 h3 h4 h5
  | .loop c, hok, m', hm, st, ex, st', e, a, w, F, M, Q, ht, hs, hn, hq => by
    simp only [codeOk] at hok
    classical
    let I : Nat → Act → World → Prop := fun q a1 w1 => q ≤ m' ∧ ∃ st1 F1 M1, TS st1.tmps a1 w1 F1 M1 ∧ HS st1.hp w1 F1 M1 ∧ Ext w w1 F F1 M M1 ∧ a1.tmps.size = fi.fn.ntmps ∧ a1.defers = a.defers ∧
      ∀ k, evC (R := R) T fi (.loop c) (callF T FT O (run T FT O q)) (run T FT O q) st1 k = k ex st'
    let μ : Act → World → Nat := fun a1 w1 => if h : ∃ q, I q a1 w1 then Classical.choose (exists_least h) else 0
    have h0 : ∃ q, I q a w := ⟨m', Nat.le_refl _, st, F, M, ht, hs, Ext.refl w F M, hn, rfl, e⟩
    refine wp_loop (fun a1 w1 => ∃ q, I q a1 w1) μ h0 ?_
    intro a1 w1 hI
    have hμ : μ a1 w1 = Classical.choose (exists_least hI) := dif_pos hI
    obtain ⟨⟨hle, st1, F1, M1, g1, g2, g3, g4, g5, g6⟩, _⟩ := Classical.choose_spec (exists_least hI)
    rw [← hμ] at hle g6
    generalize hq' : μ a1 w1 = q at hle g6
    have hu : UniCall (callF (R := R) T FT O (run T FT O q)) := callF_uni (run_uni FT O q) FT O
    unfold evC at g6
    rcases evC_uni (T := T) hu (run_uni FT O q) fi c st1 with g | ⟨ex2, st2, g⟩
    · have g' : ∀ k, evC (R := R) T fi c (callF T FT O (run T FT O q)) (run T FT O q) st1 k = none := g
      have := g6 fun _ _ => some r
      rw [g'] at this; cases this
    · have g' : ∀ k, evC (R := R) T fi c (callF T FT O (run T FT O q)) (run T FT O q) st1 k = k ex2 st2 := g
      refine evC_sound r hT hD fi m hcs c hok q (Nat.le_trans hle hm) st1 ex2 st2 g' a1 w1 F1 M1 _ g1 g2 g4 ?_
      intro w2 F2 M2 a2 k1 k2 k3 k4 k5
      cases ex2 with
      | normal =>
        have e' : ∀ k, run (R := R) T FT O q fi (.loop c) st2 k = k ex st' := fun k => by rw [← g6 k, g']; rfl
        cases q with
        | zero =>
          have := e' fun _ _ => some r
          cases this
        | succ n =>
          have hI2 : I n a2 w2 := ⟨by omega, st2, F2, M2, k1, k2, g3.trans k3, k4, k5.trans g5, e'⟩
          have hex : ∃ q, I q a2 w2 := ⟨n, hI2⟩
          refine ⟨hex, ?_⟩
          have : μ a2 w2 = Classical.choose (exists_least hex) := dif_pos hex
          rw [this]
          exact Nat.lt_succ_of_le ((Classical.choose_spec (exists_least hex)).2 n hI2)
      | exit i =>
        have e' : ∀ k : Ex → St → Option R, k (.exit i) st2 = k ex st' := fun k => by rw [← g6 k, g']; rfl
        obtain ⟨rfl, rfl⟩ := Uni2.eq_of r e'
        exact hq w2 F2 M2 a2 k1 k2 (g3.trans k3) k4 (k5.trans g5)
      | ret =>
        have e' : ∀ k : Ex → St → Option R, k .ret st2 = k ex st' := fun k => by rw [← g6 k, g']; rfl
        obtain ⟨rfl, rfl⟩ := Uni2.eq_of r e'
        exact hq w2 F2 M2 a2 k1 k2 (g3.trans k3) k4 (k5.trans g5)
  | .scope _, _, m', hm, st, ex, st', e, a, w, F, M, Q, ht, hs, hn, hq => by
    have := e fun _ _ => some r
    cases this
  | .rangeFunc .., _, m', hm, st, ex, st', e, a, w, F, M, Q, ht, hs, hn, hq => by
    have := e fun _ _ => some r
    cases this
  | .label _, _, m', hm, st, ex, st', e, a, w, F, M, Q, ht, hs, hn, hq => by
    have := e fun _ _ => some r
    cases this
  | .goto _, _, m', hm, st, ex, st', e, a, w, F, M, Q, ht, hs, hn, hq => by
    have := e fun _ _ => some r
    cases this
  | .refuse _, _, m', hm, st, ex, st', e, a, w, F, M, Q, ht, hs, hn, hq => by
    have := e fun _ _ => some r
    cases this
end
end Go.Ev

/- Calls: what the evaluator comes to, a call comes to. -/
namespace Go.Ev
variable [Env]
section
variable {P : Program} {T : Types} {R : Type} {w : World} {F : Fz} {M : Mp}

/-- one result -/
def resultOf (tmps : Array Value) : ResultVar → Sem Value
  | .tmp t => pure (tmps.getD t undef)
  | .cell b t => do loadVar t (← asAddr (tmps.getD b undef))

theorem resVar_sound (hT : TOk P T) {st : St} {a : Act} (ht : TS st.tmps a w F M) (hs : HS st.hp w F M) {x : ResultVar} {p : PV} (e : resVar T st x = some p) :
    ∃ v, (resultOf a.tmps x).run P w = .ok v w ∧ VR w F M p v := by
  cases x with
  | tmp t => exact ⟨_, rfl, (ht t p e).2⟩
  | cell b t =>
    unfold resVar at e
    cases hb : Al.get st.tmps b with
    | none => simp [hb] at e
    | some q =>
      simp only [hb] at e
      have hv := (ht b q hb).2
      obtain ⟨y, h1, h2⟩ := loadAt_sound (P := P) hT hs hv e
      refine ⟨y, ?_, h2⟩
      have hp : ∃ ad, a.tmps.getD b undef = .pointer (some ad) := by
        generalize a.tmps.getD b undef = v at hv
        cases hv with
        | ptr hm => exact ⟨_, rfl⟩
        | ep h4 h5 => exact ⟨_, rfl⟩
        | _ => simp [loadAt] at e
      obtain ⟨ad, hp⟩ := hp
      rw [hp] at h1
      show ((do loadVar t (← asAddr (a.tmps.getD b undef)) : Sem Value)).run P w = _
      rw [hp]
      simpa [Instr.loadAt, Instr.sureAddr, asAddr] using h1

theorem resVars_sound (hT : TOk P T) {st : St} {a : Act} (ht : TS st.tmps a w F M) (hs : HS st.hp w F M) : ∀ {l : List ResultVar} {ps : List PV}, resVars T st l = some ps →
    ∃ vs : List Value, (l.mapM (resultOf a.tmps)).run P w = .ok vs w ∧ VRs w F M ps vs
  | [], ps, e => by cases e; exact ⟨[], rfl, rfl, fun i c y h => by simp at h⟩
  | x :: l, ps, e => by
    unfold resVars at e
    cases hx : resVar T st x with
    | none => simp [hx] at e
    | some p =>
      simp only [hx] at e
      cases hl : resVars T st l with
      | none => simp [hl] at e
      | some q =>
        simp only [hl] at e; cases e
        obtain ⟨v, h1, h2⟩ := resVar_sound (P := P) hT ht hs hx
        obtain ⟨vs, h3, h4⟩ := resVars_sound hT ht hs hl
        refine ⟨v :: vs, ?_, by simp [h4.1], ?_⟩
        · rw [List.mapM_cons]
          simp only [Sem.run_bind, h1, Result.andThen_ok, h3, Sem.run_pure]
        · intro i c y hc hy
          cases i with
          | zero => simp at hc hy; subst hc; subst hy; exact h2
          | succ i => exact h4.2 i c y (by simpa using hc) (by simpa using hy)

theorem resOf_sound (hT : TOk P T) {st : St} {a : Act} (ht : TS st.tmps a w F M) (hs : HS st.hp w F M) {fn : Func} {p : PV} (e : resOf T fn st = some p) :
    ∃ v, (results fn a.tmps).run P w = .ok v w ∧ VR w F M p v := by
  unfold resOf at e
  cases hr : resVars T st fn.results.toList with
  | none => simp [hr] at e
  | some ps =>
    obtain ⟨vs, h1, h2⟩ := resVars_sound (P := P) hT ht hs hr
    have hrun : (results fn a.tmps).run P w = .ok (if h : vs.toArray.size = 1 then vs.toArray[0] else .tuple vs.toArray) w := by
      have hm : results fn a.tmps = (do let vs ← fn.results.mapM (resultOf a.tmps); pure (if h : vs.size = 1 then vs[0] else .tuple vs)) := rfl
      rw [hm, Array.mapM_eq_mapM_toList]
      simp only [Sem.run_bind, Sem.run_map]
      simp only [h1, Result.andThen_ok]
      rfl
    refine ⟨_, hrun, ?_⟩
    rw [hr] at e
    split at e
    · rename_i q heq
      cases heq; cases e
      obtain ⟨v, rfl⟩ := List.length_eq_one_iff.1 h2.1
      exact h2.2 0 p v rfl rfl
    · rename_i heq
      cases heq; cases e
      have : vs = [] := List.length_eq_zero_iff.1 h2.1
      subst this
      exact .un
    · rename_i l h3 h4 heq
      cases heq; cases e
      have : ¬ (vs.toArray.size = 1) := by
        simp only [List.size_toArray, h2.1]
        intro h
        obtain ⟨x, hx⟩ := List.length_eq_one_iff.1 h
        exact h3 x (by rw [hx])
      rw [dif_neg this]
      exact .tup h2.1 h2.2
    · cases e

theorem initT_get : ∀ (l : List PV) (i t : Nat), Al.get (initT i l) t = if i ≤ t then l[t - i]? else none
  | [], i, t => by simp [initT, Al.get]
  | p :: l, i, t => by
    unfold initT
    rw [Al.get_cons, initT_get l (i + 1) t]
    by_cases h : i = t
    · subst h; simp
    · rw [if_neg h]
      by_cases h2 : i ≤ t
      · rw [if_pos (by omega), if_pos h2, show t - i = (t - (i + 1)) + 1 by omega]; simp
      · rw [if_neg (by omega), if_neg h2]

theorem initT_TS {l : List PV} {args : Array Value} {n : Nat} (hv : VRs w F M l args.toList) : TS (initT 0 l) { tmps := args ++ Array.replicate (n - args.size) undef, defers := [] } w F M := by
  intro t p hp
  rw [initT_get] at hp
  simp only [Nat.zero_le, if_true, Nat.sub_zero] at hp
  have hlt := (List.getElem?_eq_some_iff.1 hp).1
  have hsz : args.size = l.length := by have := hv.1; simpa using this
  have hlt2 : t < args.size := by omega
  refine ⟨by simp; omega, hv.2 t p _ hp ?_⟩
  simp [hlt2]
  rw [Array.getElem?_append_left hlt2]
  simp [hlt2]

/-- what is shown of the evaluator at one fuel -/
def SoundRun (P : Program) (T : Types) (rc : RC R) : Prop := ∀ (fi : FI) (c : Code), codeOk fi c = true → ∀ (st : St) (ex : Ex) (st' : St), (∀ k, rc fi c st k = k ex st') →
  ∀ (a : Act) (w : World) (F : Fz) (M : Mp) (Q : Exit → Act → World → Prop), TS st.tmps a w F M → HS st.hp w F M → a.tmps.size = fi.fn.ntmps → Behind fi.fn.ntmps st' w F M a (Q ex.toExit) → c.wp P Q a w

theorem bodyF_sound' (r : R) (hT : TOk P T) {rc : RC R} (hu : UniRC rc) (hr : SoundRun P T rc) {f : Nat} {fi : FI} (hf : P.funcs[f]? = some fi.fn ∧ (fi.fn.name == "runtime.NumGoroutine") = false ∧ ∀ c, fi.fn.body = some c → codeOk fi c = true) {l : List PV} {hp h : Hp} {p : PV}
    (e : ∀ k, bodyF T fi rc l hp k = k p h) : Enters P f ∧ ∀ (w : World) (F : Fz) (M : Mp) (args : Array Value), HS hp w F M → VRs w F M l args.toList → Calls P f args w (CallPost w F M p h) := by
  obtain ⟨h1, h2, h3⟩ := hf
  unfold bodyF at e
  cases hb : fi.fn.body with
  | none =>
    simp only [hb] at e
    have := e fun _ _ => some r
    cases this
  | some c =>
    simp only [hb] at e
    refine ⟨⟨fi.fn, h1, h2, by rw [hb]; rfl⟩, ?_⟩
    cases hl : Nat.ble l.length fi.fn.ntmps with
    | false =>
      simp only [hl] at e
      have := e fun _ _ => some r
      cases this
    | true =>
      simp only [hl] at e
      have hl := Nat.le_of_ble_eq_true hl
      intro w F M args hs hv
      have hsz : args.size = l.length := by have := hv.1; simpa using this
      rcases hu fi c ⟨initT 0 l, hp⟩ with g | ⟨ex, st', g⟩
      · have := e fun _ _ => some r
        rw [g] at this; cases this
      · have e' : ∀ k : PV → Hp → Option R, endK T fi.fn k ex st' = k p h := fun k => by rw [← e k, g]
        have hres : ex.toExit ≠ .normal → ex.toExit ≠ .ret → False := by
          intro q1 q2
          cases ex with
          | normal => exact q1 rfl
          | ret => exact q2 rfl
          | exit i =>
            have := e' fun _ _ => some r
            cases this
        have hrs : resOf T fi.fn st' = some p ∧ st'.hp = h := by
          cases ex with
          | exit i => exact (hres (by simp [Ex.toExit]) (by simp [Ex.toExit])).elim
          | normal =>
            cases hro : resOf T fi.fn st' with
            | none =>
              have := e' fun _ _ => some r
              simp [endK, hro] at this
            | some q =>
              have e2 : ∀ k : PV → Hp → Option R, k q st'.hp = k p h := fun k => by rw [← e' k]; simp [endK, hro]
              obtain ⟨rfl, rfl⟩ := Uni2.eq_of r e2
              exact ⟨rfl, rfl⟩
          | ret =>
            cases hro : resOf T fi.fn st' with
            | none =>
              have := e' fun _ _ => some r
              simp [endK, hro] at this
            | some q =>
              have e2 : ∀ k : PV → Hp → Option R, k q st'.hp = k p h := fun k => by rw [← e' k]; simp [endK, hro]
              obtain ⟨rfl, rfl⟩ := Uni2.eq_of r e2
              exact ⟨rfl, rfl⟩
        refine calls_of_wp h1 hb (hr fi c (h3 c hb) _ ex st' g _ w F M _ (initT_TS hv) hs (by simp; omega) ?_)
        intro w' F' M' a' k1 k2 k3 k4 k5
        obtain ⟨v, k6, k7⟩ := resOf_sound (P := P) hT k1 k2 hrs.1
        have hfin : a'.defers = [] ∧ ∃ v, (results fi.fn a'.tmps).run P w' = .ok v w' ∧ CallPost w F M p h (.returned v) w' := ⟨k5, v, k6, v, F', M', rfl, k7, hrs.2 ▸ k2, k3⟩
        cases ex with
        | normal => exact hfin
        | ret => exact hfin
        | exit i => exact (hres (by simp [Ex.toExit]) (by simp [Ex.toExit])).elim

theorem HS.empty {w : World} {F : Fz} (n : Nat) (hF : ∀ b o, F b o → b < w.heap.size) : HS ⟨[], n, []⟩ w F noMap :=
  ⟨fun id b p h _ => by simp [Hp.get, Al.get] at h, fun i j bi bj p q h _ _ _ _ => by simp [Hp.get, Al.get] at h, fun id p h => (by cases h), fun id b h => by simp [Hp.get, Al.get] at h, hF, HM.nil⟩

/-- the caller's blocks, behind a call that knows nothing of them -/
theorem HS.behind {hp : Hp} {w w' : World} {F F' : Fz} (hs : HS hp w F M) (hx : Ext w w' F F' noMap noMap) (hF : ∀ b o, F' b o → b < w'.heap.size) : HS hp w' F' M ∧ Ext w w' F F' M M := by
  have hkeep : ∀ b, b < w.heap.size → w'.heap[b]? = w.heap[b]? := fun b hb => hx.keep b hb fun i p h => (by cases h)
  refine ⟨⟨?_, hs.inj, fun id p h => ⟨(hs.lt id p h).1, Nat.lt_of_lt_of_le (hs.lt id p h).2 hx.size⟩, hs.fresh, hF, hs.ms.mono (Nat.le_refl _) (fun b hb => hkeep b hb.lt) hx.mF hx.cell (fun _ _ h => h) fun _ _ _ h => h⟩, ⟨hx.os, hx.tape, hx.output, hx.size, fun b hb _ => hkeep b hb, hx.cell, fun _ _ h => h, hx.mF, fun _ _ h => .inl h, ?_⟩⟩
  · intro id b p hg hm
    have br := hs.br id b p hg hm
    obtain ⟨c, e, h1, h2, h3, h4⟩ := br.blk
    refine ⟨br.n, br.sz, br.loose, ⟨c, e, by rw [hkeep _ (hs.lt id p hm).2]; exact h1, h2, h3, fun o x hx' => ?_⟩, ?_, br.ty.1, by rw [hkeep _ (hs.lt id p hm).2]; exact br.ty.2⟩
    · obtain ⟨k1, y, k2, k3⟩ := h4 o x hx'
      exact ⟨k1, y, k2, k3.mono hx.mF hx.cell fun _ _ h => h⟩
    · intro o ho hf
      rcases hx.newF _ _ hf with h | h | ⟨j, q, h, _⟩
      · exact br.nf o ho h
      · have := (hs.lt id p hm).2; omega
      · cases h
  · intro b o h
    rcases hx.newF b o h with h | h | ⟨j, q, h, _⟩
    · exact .inl h
    · exact .inr (.inl h)
    · cases h

theorem bodyF_sound (r : R) (hT : TOk P T) {FT : Fns} (hF : FTOk P FT) {rc : RC R} (hu : UniRC rc) (hr : SoundRun P T rc) {f : Nat} {fi : FI} (hf : FT.get f = some fi) {l : List PV} {hp h : Hp} {p : PV}
    (e : ∀ k, bodyF T fi rc l hp k = k p h) : Enters P f ∧ ∀ (w : World) (F : Fz) (M : Mp) (args : Array Value), HS hp w F M → VRs w F M l args.toList → Calls P f args w (CallPost w F M p h) :=
  bodyF_sound' r hT hu hr ⟨(hF f fi hf).1, (hF f fi hf).2.1, (hF f fi hf).2.2.1⟩ e

theorem Calls.mono_of {f : FuncId} {args : Array Value} {w : World} {K K' : Ending → World → Prop} (h : Calls P f args w K) (hk : ∀ e w', K e w' → K' e w') : Calls P f args w K' := Calls.mono h hk

theorem ownF_sound (r : R) (hT : TOk P T) {FT : Fns} (hF : FTOk P FT) {rc : RC R} (hu : UniRC rc) (hr : SoundRun P T rc) {f : Nat} {fi : FI} (hf : FT.get f = some fi) {l : List PV} {hp h : Hp} {p : PV}
    (e : ∀ k, ownF T fi rc l hp k = k p h) : Enters P f ∧ ∀ (w : World) (F : Fz) (M : Mp) (args : Array Value), HS hp w F M → VRs w F M l args.toList → Calls P f args w (CallPost w F M p h) := by
  unfold ownF at e
  cases hd : fi.frz with
  | false =>
    simp only [hd] at e
    exact bodyF_sound r hT hF hu hr hf e
  | true =>
    simp only [hd] at e
    rcases bodyF_uni (T := T) hu fi l hp with g | ⟨q, h', g⟩
    · have g' : ∀ k, bodyF T fi rc l hp k = none := g
      have := e fun _ _ => some r
      rw [g'] at this; cases this
    · have g' : ∀ k, bodyF T fi rc l hp k = k q h' := g
      have e' : ∀ k : PV → Hp → Option R, frzK k q h' = k p h := fun k => by rw [← e k, g']
      unfold frzK at e'
      cases hq : freeze deepN h' q with
      | none =>
        simp only [hq] at e'
        have := e' fun _ _ => some r
        cases this
      | some qh =>
        simp only [hq] at e'
        obtain ⟨rfl, rfl⟩ := Uni2.eq_of r e'
        obtain ⟨h1, h2⟩ := bodyF_sound r hT hF hu hr hf g'
        refine ⟨h1, fun w F M args hs hv => ?_⟩
        refine Calls.mono (h2 w F M args hs hv) ?_
        rintro e w' ⟨v, F', M', rfl, k1, k2, k3⟩
        obtain ⟨F2, m1, m2, m3⟩ := freeze_sound deepN h' q qh.1 qh.2 hq F' v k2 k1
        exact ⟨v, F2, M', rfl, m3.mono (fun _ _ h => h) (fun _ _ _ => rfl) (fun _ _ h => by cases h), m1, k3.trans m2⟩

theorem callO_sound (r : R) {O : Orc} (hO : OrcOk P O) {f : Nat} {l : List PV} {hp h : Hp} {p : PV} (e : ∀ k : PV → Hp → Option R, callO O f k (freezeL deepN hp l) = k p h) :
    Enters P f ∧ ∀ (w : World) (F : Fz) (M : Mp) (args : Array Value), HS hp w F M → VRs w F M l args.toList → Calls P f args w (CallPost w F M p h) := by
  unfold callO at e
  cases hz : freezeL deepN hp l with
  | none =>
    simp only [hz] at e
    have := e fun _ _ => some r
    cases this
  | some dh =>
    simp only [hz] at e
    cases ho : O f dh.1 with
    | none =>
      simp only [ho] at e
      have := e fun _ _ => some r
      cases this
    | some q =>
      simp only [ho] at e
      obtain ⟨rfl, rfl⟩ := Uni2.eq_of r e
      have hk := hO f dh.1 q ho
      unfold KnownX at hk
      rw [freezeL_unKey hz] at hk
      obtain ⟨h1, h2⟩ := hk
      refine ⟨h1, fun w F M args hs hv => ?_⟩
      obtain ⟨F1, g1, g2, g3, _⟩ := freezeL_sound deepN hp l dh.1 dh.2 hz F args.toList hs hv
      refine Calls.mono (h2 w F1 args g1.fw g3) ?_
      rintro e w' ⟨v, F', rfl, k1, k2, k3⟩
      obtain ⟨k4, k5⟩ := g1.behind k3 k2
      exact ⟨v, F', M, rfl, k1.mono (fun _ _ h => h) (fun _ _ _ => rfl) (fun _ _ h => by cases h), k4, g2.trans k5⟩

theorem up_some {p q : Pl} {i : Nat} (h : (noMap.up 0 p) i = some q) : i = 0 ∧ q = p := by
  unfold Mp.up at h
  split at h
  · rename_i e; cases h; exact ⟨e, rfl⟩
  · cases h

/-- one block, looked at alone -/
theorem HS.alone {hp : Hp} {w : World} {F : Fz} {id : Nat} {b : Blk} {p : Pl} (hs : HS hp w F M) (hg : hp.get id = some b) (hm : M id = some p) (hk : stOk b = true) :
    HS ⟨[(0, ⟨b.cells, b.cells.length, false, 0, b.ty⟩)], 1, []⟩ w F (noMap.up 0 p) := by
  have hb := hs.br id b p hg hm
  unfold stOk at hk
  simp only [Bool.and_eq_true, Bool.not_eq_true'] at hk
  obtain ⟨h1, h2, h3, h4⟩ := hk
  have h1 := Nat.eq_of_beq_eq_true h1
  have h3 := Nat.eq_of_beq_eq_true h3
  have hget : ∀ i b', Hp.get ⟨[(0, ⟨b.cells, b.cells.length, false, 0, b.ty⟩)], 1, []⟩ i = some b' → i = 0 ∧ b' = ⟨b.cells, b.cells.length, false, 0, b.ty⟩ := by
    intro i b' h
    unfold Hp.get at h
    rw [Al.get_cons] at h
    split at h
    · rename_i e; cases h; exact ⟨e.symm, rfl⟩
    · cases h
  refine ⟨fun i b' q h hM => ?_, fun i j bi bj q q' hi hj _ _ _ => ((hget i bi hi).1.trans (hget j bj hj).1.symm), fun i q h => ?_, fun i b' h => ?_, hs.fw, HM.nil⟩
  · obtain ⟨rfl, rfl⟩ := hget i b' h
    obtain ⟨_, rfl⟩ := up_some hM
    obtain ⟨c, e, k1, k2, k3, k4⟩ := hb.blk
    refine ⟨hb.n, hb.sz.trans h1, hb.loose.trans h2, ⟨c, e, k1, k2, k3, fun o x hx => ?_⟩, fun o ho => hb.nf o (by rw [h3]; exact ho), fun _ => hb.ty.1 h2, hb.ty.2⟩
    obtain ⟨g1, y, g2, g3⟩ := k4 o x hx
    have hd : isData 9 x = true := by
      have := List.all_eq_true.1 h4 x (List.mem_of_getElem? hx)
      simp only [Bool.and_eq_true] at this
      exact this.1
    exact ⟨g1, y, g2, VR.data 9 hd g3⟩
  · obtain ⟨rfl, rfl⟩ := up_some h
    exact ⟨Nat.one_pos, (hs.lt id q hm).2⟩
  · obtain ⟨rfl, _⟩ := hget i b' h
    exact Nat.one_pos

/-- the heap behind a call that was told of one block -/
theorem HS.back {hp : Hp} {w w' : World} {F F' : Fz} {id : Nat} {b : Blk} {p : Pl} {cs : List PV} (hs : HS hp w F M) (hg : hp.get id = some b) (hm : M id = some p) (hk : stOk b = true) (hc : stCells cs = true)
    (hb' : HS ⟨[(0, ⟨cs, b.cells.length, false, 0, b.ty⟩)], 1, []⟩ w' F' (noMap.up 0 p)) (hx : Ext w w' F F' (noMap.up 0 p) (noMap.up 0 p)) :
    HS (hp.put id ⟨cs, b.sz, false, 0, b.ty⟩) w' F' M ∧ Ext w w' F F' M M := by
  have hb := hs.br id b p hg hm
  unfold stOk at hk
  simp only [Bool.and_eq_true, Bool.not_eq_true'] at hk
  obtain ⟨h1, h2, h3, h4⟩ := hk
  have h1 := Nat.eq_of_beq_eq_true h1
  have hne : ∀ {b0 : Nat}, p.b ≠ b0 → ∀ i q, (noMap.up 0 p) i = some q → q.b ≠ b0 := by
    intro b0 hb0 i q hq
    obtain ⟨_, rfl⟩ := up_some hq
    exact hb0
  have hget : ∀ i b', (hp.put id ⟨cs, b.sz, false, 0, b.ty⟩).get i = some b' → (i = id ∧ b' = ⟨cs, b.sz, false, 0, b.ty⟩) ∨ (i ≠ id ∧ hp.get i = some b') := by
    intro i b' h
    unfold Hp.get Hp.put at h
    simp only [] at h
    rw [Al.get_set] at h
    split at h
    · rename_i e
      have hg' : Al.get hp.blks id = some b := hg
      rw [hg'] at h
      cases h
      exact .inl ⟨e, rfl⟩
    · rename_i e; exact .inr ⟨e, h⟩
  have hold : ∀ i b', (hp.put id ⟨cs, b.sz, false, 0, b.ty⟩).get i = some b' → ∃ b0, hp.get i = some b0 := by
    intro i b' h
    rcases hget i b' h with ⟨rfl, _⟩ | ⟨_, h⟩
    · exact ⟨b, hg⟩
    · exact ⟨b', h⟩
  refine ⟨⟨fun i bb pp hgi hmi => ?_, fun i j bi bj q q' hi hj hqi hqj e => ?_, fun i q h => ⟨(hs.lt i q h).1, Nat.lt_of_lt_of_le (hs.lt i q h).2 hx.size⟩, fun i b' h => ?_, hb'.fw, ?_⟩, ⟨hx.os, hx.tape, hx.output, hx.size, fun b0 hb0 hn => hx.keep b0 hb0 (hne (hn id p hm)), hx.cell, fun _ _ h => h, hx.mF, fun _ _ h => .inl h, ?_⟩⟩
  · rcases hget i bb hgi with ⟨rfl, rfl⟩ | ⟨hi, hgi⟩
    · rw [hm] at hmi
      cases hmi
      have hn := hb'.br 0 _ p rfl rfl
      obtain ⟨c, e, k1, k2, k3, k4⟩ := hn.blk
      refine ⟨hn.n, hn.sz.trans h1.symm, hn.loose, ⟨c, e, k1, k2, k3, fun o x hx' => ?_⟩, hn.nf, hn.ty.1, hn.ty.2⟩
      obtain ⟨g1, y, g2, g3⟩ := k4 o x hx'
      have hd : isData 9 x = true := by
        have := List.all_eq_true.1 hc x (List.mem_of_getElem? hx')
        simp only [Bool.and_eq_true] at this
        exact this.1
      exact ⟨g1, y, g2, VR.data 9 hd g3⟩
    · have br := hs.br i bb pp hgi hmi
      have hpne : p.b ≠ pp.b := fun e => hi (hs.inj i id bb b pp p hgi hg hmi hm e.symm)
      have hkeep : w'.heap[pp.b]? = w.heap[pp.b]? := hx.keep _ (hs.lt i pp hmi).2 (hne hpne)
      obtain ⟨c, e, k1, k2, k3, k4⟩ := br.blk
      refine ⟨br.n, br.sz, br.loose, ⟨c, e, by rw [hkeep]; exact k1, k2, k3, fun o x hx' => ?_⟩, ?_, br.ty.1, by rw [hkeep]; exact br.ty.2⟩
      · obtain ⟨g1, y, g2, g3⟩ := k4 o x hx'
        exact ⟨g1, y, g2, g3.mono hx.mF hx.cell fun _ _ h => h⟩
      · intro o ho hf
        rcases hx.newF _ _ hf with h | h | ⟨j, q, h, h'⟩
        · exact br.nf o ho h
        · have := (hs.lt i pp hmi).2; omega
        · exact hne hpne j q h h'
  · obtain ⟨b1, g1⟩ := hold i bi hi
    obtain ⟨b2, g2⟩ := hold j bj hj
    exact hs.inj i j b1 b2 q q' g1 g2 hqi hqj e
  · obtain ⟨b1, g1⟩ := hold i b' h
    exact hs.fresh i b1 g1
  · refine hs.ms.mono (Nat.le_refl _) (fun b0 hb0 => hx.keep b0 hb0.lt (hne ?_)) hx.mF hx.cell (fun _ _ h => h) fun _ _ _ h => h
    intro e
    subst e
    obtain ⟨c, e, k1, _⟩ := hb.blk
    exact notMap k1 hb0
  · intro b0 o h
    rcases hx.newF b0 o h with h | h | ⟨j, q, h, h'⟩
    · exact .inl h
    · exact .inr (.inl h)
    · obtain ⟨_, rfl⟩ := up_some h
      exact .inr (.inr ⟨id, q, hm, h'⟩)

theorem callS_sound (r : R) {O : Orc} (hO : OrcOk P O) {f id : Nat} {l : List PV} {hp h : Hp} {p : PV} (e : ∀ k : PV → Hp → Option R, callS O f id k (freezeL deepN hp l) = k p h) :
    Enters P f ∧ ∀ (w : World) (F : Fz) (M : Mp) (args : Array Value), HS hp w F M → VRs w F M (.ptr id 0 :: l) args.toList → Calls P f args w (CallPost w F M p h) := by
  unfold callS at e
  have no : ¬ ∀ k : PV → Hp → Option R, (none : Option R) = k p h := fun e => by
    have := e fun _ _ => some r
    cases this
  cases hz : freezeL deepN hp l with
  | none => simp only [hz] at e; exact (no e).elim
  | some dh =>
    simp only [hz] at e
    cases hg : dh.2.get id with
    | none => simp only [hg] at e; exact (no e).elim
    | some b =>
      simp only [hg] at e
      cases hk : stOk b with
      | false => simp only [hk] at e; exact (no e).elim
      | true =>
        simp only [hk] at e
        unfold stAns at e
        split at e
        · rename_i q cs ho
          split at e
          · rename_i hcc
            simp only [Bool.and_eq_true] at hcc
            obtain ⟨rfl, rfl⟩ := Uni2.eq_of r e
            have hX := hO f _ _ ho
            unfold KnownX at hX
            simp only [stKey, unKey] at hX
            obtain ⟨q1, cs1, heq, h1, h2⟩ := hX
            injection heq with heq
            injection heq with e1 heq
            injection heq with e2 heq
            injection e2 with e2
            subst e1; subst e2
            refine ⟨h1, fun w F M args hs hv => ?_⟩
            rcases hargs : args.toList with _ | ⟨y0, ys⟩
            · rw [hargs] at hv; exact absurd hv.1 (by simp)
            · rw [hargs] at hv
              have hv0 := hv.2 0 _ y0 rfl rfl
              have hvr : VRs w F M l ys := ⟨by simpa using hv.1, fun i c z hc hz => hv.2 (i + 1) c z (by simpa using hc) (by simpa using hz)⟩
              cases hv0 with
              | ptr hm =>
                rename_i pl
                obtain ⟨F1, g1, g2, g3, _⟩ := freezeL_sound deepN hp l dh.1 dh.2 hz F ys hs hvr
                refine Calls.mono (h2 w F1 pl args (g1.alone hg hm hk) ?_) ?_
                · rw [hargs]
                  refine ⟨by simp [g3.1], fun i c y hc hy => ?_⟩
                  cases i with
                  | zero => simp at hc hy; subst hc; subst hy; exact .ptr rfl
                  | succ i => exact (g3.2 i c y (by simpa using hc) (by simpa using hy)).mono (fun _ _ h => h) (fun _ _ _ => rfl) (fun _ _ h => by cases h)
                · rintro e w' ⟨v, F', rfl, k1, k2, k3⟩
                  obtain ⟨k4, k5⟩ := g1.back hg hm hk hcc.2 k2 k3
                  exact ⟨v, F', M, rfl, k1.mono (fun _ _ h => h) (fun _ _ _ => rfl) (fun _ _ h => by cases h), k4, g2.trans k5⟩
          · exact (no e).elim
        · exact (no e).elim

theorem callA_sound (r : R) {O : Orc} (hO : OrcOk P O) {f : Nat} {l : List PV} {hp h : Hp} {p : PV} (e : ∀ k : PV → Hp → Option R, callA O f (freezeL deepN) l hp k = k p h) :
    Enters P f ∧ ∀ (w : World) (F : Fz) (M : Mp) (args : Array Value), HS hp w F M → VRs w F M l args.toList → Calls P f args w (CallPost w F M p h) := by
  unfold callA at e
  split at e
  · split at e
    · exact callS_sound r hO e
    · have := e fun _ _ => some r
      cases this
  · exact callO_sound r hO e

theorem cmpI_eq : ∀ a b : List UInt8, Lib.compareBytes a b = cmpI a b
  | [], [] => rfl
  | [], _ :: _ => rfl
  | _ :: _, [] => rfl
  | x :: a, y :: b => by
    have ih := cmpI_eq a b
    unfold Lib.compareBytes
    unfold cmpI bytesEq bytesLt
    rcases Nat.lt_trichotomy x.toNat y.toNat with h | h | h
    · have h1 : Nat.beq x.toNat y.toNat = false := by rw [Bool.eq_false_iff]; intro e; have := Nat.eq_of_beq_eq_true e; omega
      have h2 : Nat.blt x.toNat y.toNat = true := Nat.ble_eq_true_of_le h
      have h3 : x < y := h
      simp [h1, h2, h3]
    · have hxy : x = y := UInt8.toNat_inj.1 h
      subst hxy
      have h1 : Nat.beq x.toNat x.toNat = true := Nat.beq_refl _
      have h2 : Nat.blt x.toNat x.toNat = false := by
        rw [Bool.eq_false_iff]; intro e; have : x.toNat + 1 ≤ x.toNat := Nat.le_of_ble_eq_true e; omega
      have h3 : ¬ x < x := UInt8.lt_irrefl x
      simp only [h1, h2, h3, if_false]
      rw [ih]
      rfl
    · have h1 : Nat.beq x.toNat y.toNat = false := by rw [Bool.eq_false_iff]; intro e; have := Nat.eq_of_beq_eq_true e; omega
      have h2 : Nat.blt x.toNat y.toNat = false := by
        rw [Bool.eq_false_iff]; intro e; have : x.toNat + 1 ≤ y.toNat := Nat.le_of_ble_eq_true e; omega
      have h3 : ¬ x < y := by intro e; have : x.toNat < y.toNat := e; omega
      have h4 : y < x := h
      simp [h1, h2, h3, h4]

theorem callF_sound (r : R) (hT : TOk P T) {FT : Fns} {O : Orc} (hF : FTOk P FT) (hO : OrcOk P O) {rc : RC R} (hu : UniRC rc) (hr : SoundRun P T rc) : SoundCall P (callF T FT O rc) := by
  intro f l hp p h e
  unfold callF at e
  cases hf : FT.get f with
  | none =>
    simp only [hf] at e
    obtain ⟨h1, h2⟩ := callA_sound r hO e
    exact fun w F M args hs hv => .inl ⟨h1, h2 w F M args hs hv⟩
  | some fi =>
    simp only [hf] at e
    cases hd : fi.data with
    | false =>
      simp only [hd] at e
      cases hm : fi.mix with
      | false =>
        simp only [hm] at e
        cases hb : fi.fn.body with
        | some c =>
          simp only [hb] at e
          obtain ⟨h1, h2⟩ := ownF_sound r hT hF hu hr hf e
          exact fun w F M args hs hv => .inl ⟨h1, h2 w F M args hs hv⟩
        | none =>
          simp only [hb] at e
          obtain ⟨g1, g2, _, g3⟩ := hF f fi hf
          obtain ⟨g4, g5⟩ := g3 hb
          unfold noBody at e
          cases hz : fi.frz with
          | false =>
            simp only [hz] at e
            have g5 := g5.1 hz
            unfold extF at e
            split at e
            · obtain ⟨rfl, rfl⟩ := Uni2.eq_of r e
              intro w F M args hs hv
              obtain ⟨y, hy⟩ : ∃ y, args = #[y] := by
                have h1 : args.toList.length = 1 := hv.1
                rcases hl : args.toList with _ | ⟨y, _ | ⟨z, t⟩⟩ <;> simp [hl] at h1
                exact ⟨y, by apply Array.ext'; simpa using hl⟩
              subst hy
              refine .inr ⟨y, w, ?_, y, F, M, rfl, hv.2 0 _ y rfl rfl, hs, Ext.refl w F M⟩
              rw [run_callFunc_extern g1 g2 (by rw [hb]; rfl) g4 g5]
              rfl
            · have := e fun _ _ => some r
              cases this
          | true =>
            simp only [hz] at e
            have g5 := g5.2 hz
            unfold cmpTxt at e
            split at e
            · rename_i a b
              obtain ⟨rfl, rfl⟩ := Uni2.eq_of r e
              intro w F M args hs hv
              obtain ⟨y, z, hy⟩ : ∃ y z, args = #[y, z] := by
                have h1 : args.toList.length = 2 := hv.1
                rcases hl : args.toList with _ | ⟨y, _ | ⟨z, _ | ⟨x, t⟩⟩⟩ <;> simp [hl] at h1
                exact ⟨y, z, by apply Array.ext'; simpa using hl⟩
              subst hy
              have hy := hv.2 0 _ y rfl rfl
              have hzv := hv.2 1 _ z rfl rfl
              cases hy
              cases hzv
              refine .inr ⟨_, w, ?_, _, F, M, rfl, .v rfl, hs, Ext.refl w F M⟩
              rw [run_callFunc_extern g1 g2 (by rw [hb]; rfl) g4 g5, Lib.run_compareString, cmpI_eq]
              rfl
            · have := e fun _ _ => some r
              cases this
      | true =>
        simp only [hm] at e
        cases hl : l.any headUnk with
        | false =>
          simp only [hl] at e
          obtain ⟨h1, h2⟩ := ownF_sound r hT hF hu hr hf e
          exact fun w F M args hs hv => .inl ⟨h1, h2 w F M args hs hv⟩
        | true =>
          simp only [hl] at e
          obtain ⟨h1, h2⟩ := callO_sound r hO e
          exact fun w F M args hs hv => .inl ⟨h1, h2 w F M args hs hv⟩
    | true =>
      simp only [hd] at e
      unfold callD at e
      cases hz : freezeL deepN hp l with
      | none =>
        simp only [hz] at e
        have := e fun _ _ => some r
        cases this
      | some dh =>
        simp only [hz] at e
        rcases bodyF_uni (T := T) hu fi dh.1 ⟨[], 0, []⟩ with g | ⟨q, h', g⟩
        · have g' : ∀ k, bodyF T fi rc dh.1 ⟨[], 0, []⟩ k = none := g
          have := e fun _ _ => some r
          rw [g'] at this; cases this
        · have g' : ∀ k, bodyF T fi rc dh.1 ⟨[], 0, []⟩ k = k q h' := g
          have e' : ∀ k : PV → Hp → Option R, dataK k dh.2 q h' = k p h := fun k => by rw [← e k, g']
          unfold dataK at e'
          cases hq : freeze deepN h' q with
          | none =>
            simp only [hq] at e'
            have := e' fun _ _ => some r
            cases this
          | some qh =>
            simp only [hq] at e'
            obtain ⟨rfl, rfl⟩ := Uni2.eq_of r e'
            obtain ⟨h1, h2⟩ := bodyF_sound r hT hF hu hr hf g'
            refine fun w F M args hs hv => .inl ⟨h1, ?_⟩
            obtain ⟨F1, g1, g2, g3, _⟩ := freezeL_sound deepN hp l dh.1 dh.2 hz F args.toList hs hv
            refine Calls.mono (h2 w F1 noMap args (HS.empty 0 g1.fw) g3) ?_
            rintro e w' ⟨v, F', M', rfl, k1, k2, k3⟩
            obtain ⟨F2, m1, m2, m3⟩ := freeze_sound deepN h' q qh.1 qh.2 hq F' v k2 k1
            have hx : Ext w w' F1 F2 noMap M' := k3.trans m2
            have hx' : Ext w w' F1 F2 noMap noMap := ⟨hx.os, hx.tape, hx.output, hx.size, hx.keep, hx.cell, fun _ _ h => h, hx.mF, fun _ _ h => .inl h, hx.newF⟩
            obtain ⟨k4, k5⟩ := g1.behind hx' m1.fw
            exact ⟨v, F2, M, rfl, m3.mono (fun _ _ h => h) (fun _ _ _ => rfl) (fun _ _ h => by cases h), k4, g2.trans k5⟩

/-- the evaluator, at every fuel -/
theorem run_sound (r : R) (hT : TOk P T) (hD : DrawSound P T R) {FT : Fns} {O : Orc} (hF : FTOk P FT) (hO : OrcOk P O) (n : Nat) : SoundRun P T (run (R := R) T FT O n) := by
  induction n using Nat.strongRecOn with
  | _ n ih =>
    cases n with
    | zero =>
      intro fi c _ st ex st' e
      have := e fun _ _ => some r
      cases this
    | succ m =>
      intro fi c hok st ex st' e a w F M Q ht hs hn hq
      exact evC_sound r hT hD fi m (fun m' hm => callF_sound r hT hF hO (run_uni FT O m') (ih m' (by omega))) c hok m (Nat.le_refl _) st ex st' e a w F M Q ht hs hn hq

/-- a call of a function that the table holds -/
theorem call_sound (r : R) (hT : TOk P T) (hD : DrawSound P T R) {FT : Fns} {O : Orc} (hF : FTOk P FT) (hO : OrcOk P O) (n : Nat) : SoundCall P (callF (R := R) T FT O (run T FT O n)) :=
  callF_sound r hT hF hO (run_uni FT O n) (run_sound r hT hD hF hO n)
end
end Go.Ev

/- An operation looks at the slots that it names alone. -/
namespace Go.Ev
variable [Env]

def Same (tm tm' : Tm) (xs : List Operand) : Prop := ∀ t, Operand.tmp t ∈ xs → Al.get tm' t = Al.get tm t

theorem Same.sub {tm tm' : Tm} {xs ys : List Operand} (h : Same tm tm' xs) (hs : ∀ x ∈ ys, x ∈ xs) : Same tm tm' ys := fun t ht => h t (hs _ ht)

theorem opd_same {tm tm' : Tm} {x : Operand} (h : Same tm tm' [x]) : opd x tm' = opd x tm := by
  cases x with
  | tmp t => exact h t List.mem_cons_self
  | const v => simp only [opd]; cases flat v <;> rfl
  | func f => rfl
  | global g => rfl

theorem opds_same {tm tm' : Tm} : ∀ {xs : List Operand}, Same tm tm' xs → opds xs tm' = opds xs tm
  | [], _ => rfl
  | x :: r, h => by
    unfold opds
    rw [opd_same (h.sub (by simp)), opds_same (h.sub (by intro y hy; exact List.mem_cons_of_mem _ hy))]

theorem partsOf_same {tm tm' : Tm} : ∀ {ps : List (Nat × Operand)}, Same tm tm' (ps.map (·.2)) → partsOf ps tm' = partsOf ps tm
  | [], _ => rfl
  | (i, x) :: r, h => by
    unfold partsOf
    rw [opd_same (h.sub (by simp)), partsOf_same (h.sub (by intro y hy; exact List.mem_cons_of_mem _ hy))]

theorem opdO_same {tm tm' : Tm} {x : Option Operand} (h : Same tm tm' x.toList) : opdO x tm' = opdO x tm := by
  cases x with
  | none => rfl
  | some x => show someO (opd x tm') = someO (opd x tm); rw [opd_same (x := x) (h.sub (by simp))]

theorem prim_same (T : Types) {tm tm' : Tm} (op : Op) (hp : Hp) (h : Same tm tm' op.operands.toList) : prim T op hp tm' = prim T op hp tm := by
  cases op <;> simp only [prim] <;> try rfl
  case build t ps => rw [partsOf_same (h.sub (by simp [Op.operands]))]
  case buildSlice t n ps => rw [partsOf_same (h.sub (by simp [Op.operands]))]
  case makeFunc fn first caps => rw [opds_same (xs := first.toList) (h.sub (by simp [Op.operands]; intro x hx; exact .inl hx)), opds_same (xs := caps.toList) (h.sub (by simp [Op.operands]; intro x hx; exact .inr hx))]
  case makeMap t x => rw [opdO_same (x := x) (h.sub (by intro y hy; cases x <;> simp_all [Op.operands]))]
  case lookup t x k ok => rw [opd_same (x := x) (h.sub (by simp [Op.operands])), opd_same (x := k) (h.sub (by simp [Op.operands]))]
  case mapUpdate t x k v => rw [opd_same (x := x) (h.sub (by simp [Op.operands])), opd_same (x := k) (h.sub (by simp [Op.operands])), opd_same (x := v) (h.sub (by simp [Op.operands]))]
  case insert t x k v => rw [opd_same (x := x) (h.sub (by simp [Op.operands])), opd_same (x := k) (h.sub (by simp [Op.operands])), opd_same (x := v) (h.sub (by simp [Op.operands]))]
  case slice t x lo hi mx =>
    rw [opd_same (x := x) (h.sub (by simp [Op.operands])), opdO_same (x := lo) (h.sub ?_), opdO_same (x := hi) (h.sub ?_), opdO_same (x := mx) (h.sub ?_)]
    · intro y hy; simp only [Op.operands, Array.toList_append, List.mem_append]; right; cases mx <;> simp_all
    · intro y hy; simp only [Op.operands, Array.toList_append, List.mem_append]; left; right; cases hi <;> simp_all
    · intro y hy; simp only [Op.operands, Array.toList_append, List.mem_append]; left; left; right; cases lo <;> simp_all
  case call c =>
    obtain ⟨callee, args, ats⟩ := c
    cases callee <;> simp only []
    rename_i b
    have ha : Same tm tm' args.toList := h.sub (by intro y hy; simp only [Op.operands, Call.operands, Array.toList_append, List.mem_append]; exact .inr hy)
    cases b <;> simp only [primBuiltin]
    case max => rw [opds_same ha]
    case min => rw [opds_same ha]
    case len =>
      rcases hx : args.toList with _ | ⟨x, _ | ⟨y, r⟩⟩ <;> rcases ht : ats.toList with _ | ⟨t, _ | ⟨u, s⟩⟩ <;> simp only [] <;> try rfl
      rw [opd_same (x := x) (ha.sub (by intro z hz; rw [hx]; exact hz))]
    case cap =>
      rcases hx : args.toList with _ | ⟨x, _ | ⟨y, r⟩⟩ <;> rcases ht : ats.toList with _ | ⟨t, _ | ⟨u, s⟩⟩ <;> simp only [] <;> try rfl
      rw [opd_same (x := x) (ha.sub (by intro z hz; rw [hx]; exact hz))]
    case clear =>
      rcases hx : args.toList with _ | ⟨x, _ | ⟨y, r⟩⟩ <;> rcases ht : ats.toList with _ | ⟨t, _ | ⟨u, s⟩⟩ <;> simp only [] <;> try rfl
      rw [opd_same (x := x) (ha.sub (by intro z hz; rw [hx]; exact hz))]
    case unsafeSliceData =>
      rcases hx : args.toList with _ | ⟨x, _ | ⟨y, r⟩⟩ <;> simp only [] <;> try rfl
      rw [opd_same (x := x) (ha.sub (by intro z hz; rw [hx]; exact hz))]
    case unsafeString =>
      rcases hx : args.toList with _ | ⟨x, _ | ⟨y, _ | ⟨z, r⟩⟩⟩ <;> rcases ht : ats.toList with _ | ⟨t, _ | ⟨u, _ | ⟨v, s⟩⟩⟩ <;> simp only [] <;> try rfl
      rw [opd_same (x := x) (ha.sub (by intro z hz; rw [hx]; simp at hz; simp [hz])), opd_same (x := y) (ha.sub (by intro z hz; rw [hx]; simp at hz; simp [hz]))]
    case append =>
      rcases hx : args.toList with _ | ⟨x, _ | ⟨y, _ | ⟨z, r⟩⟩⟩ <;> rcases ht : ats.toList with _ | ⟨t, _ | ⟨u, _ | ⟨v, s⟩⟩⟩ <;> simp only [] <;> try rfl
      cases Nat.beq t u with
      | false =>
        simp only []
        rw [opd_same (x := x) (ha.sub (by intro z hz; rw [hx]; simp at hz; simp [hz])), opd_same (x := y) (ha.sub (by intro z hz; rw [hx]; simp at hz; simp [hz]))]
      | true =>
        simp only []
        rw [opd_same (x := x) (ha.sub (by intro z hz; rw [hx]; simp at hz; simp [hz])), opd_same (x := y) (ha.sub (by intro z hz; rw [hx]; simp at hz; simp [hz]))]
    case copy =>
      rcases hx : args.toList with _ | ⟨x, _ | ⟨y, _ | ⟨z, r⟩⟩⟩ <;> rcases ht : ats.toList with _ | ⟨t, _ | ⟨u, _ | ⟨v, s⟩⟩⟩ <;> simp only [] <;> try rfl
      cases Nat.beq t u with
      | false => rfl
      | true =>
        simp only []
        rw [opd_same (x := x) (ha.sub (by intro z hz; rw [hx]; simp at hz; simp [hz])), opd_same (x := y) (ha.sub (by intro z hz; rw [hx]; simp at hz; simp [hz]))]
  case move x => rw [opd_same (h.sub (by simp [Op.operands]))]
  case assign x => rw [opd_same (h.sub (by simp [Op.operands]))]
  case pick c x y => rw [opd_same (x := c) (h.sub (by simp [Op.operands])), opd_same (x := x) (h.sub (by simp [Op.operands])), opd_same (x := y) (h.sub (by simp [Op.operands]))]
  case box t x => rw [opd_same (h.sub (by simp [Op.operands]))]
  case load t x => rw [opd_same (h.sub (by simp [Op.operands]))]
  case store t x y => rw [opd_same (x := x) (h.sub (by simp [Op.operands])), opd_same (x := y) (h.sub (by simp [Op.operands]))]
  case nilCheck x => rw [opd_same (h.sub (by simp [Op.operands]))]
  case binOp op t x y yt => rw [opd_same (x := x) (h.sub (by simp [Op.operands])), opd_same (x := y) (h.sub (by simp [Op.operands]))]
  case unOp op t x => rw [opd_same (h.sub (by simp [Op.operands]))]
  case convert s d x => rw [opd_same (h.sub (by simp [Op.operands]))]
  case makeInterface t x => rw [opd_same (h.sub (by simp [Op.operands]))]
  case makeSlice t x y => rw [opd_same (x := x) (h.sub (by simp [Op.operands])), opd_same (x := y) (h.sub (by simp [Op.operands]))]
  case fieldAddr s x f => rw [opd_same (h.sub (by simp [Op.operands]))]
  case field s x f => rw [opd_same (h.sub (by simp [Op.operands]))]
  case indexAddr t x i => rw [opd_same (x := x) (h.sub (by simp [Op.operands])), opd_same (x := i) (h.sub (by simp [Op.operands]))]
  case index t x i => rw [opd_same (x := x) (h.sub (by simp [Op.operands])), opd_same (x := i) (h.sub (by simp [Op.operands]))]
  case extract x i => rw [opd_same (h.sub (by simp [Op.operands]))]

theorem enters_same {tm tm' : Tm} (op : Op) (h : Same tm tm' op.operands.toList) : enters op tm' = enters op tm := by
  cases op <;> simp only [enters]
  rename_i c
  obtain ⟨callee, args, ats⟩ := c
  cases callee <;> simp only []
  rename_i f
  have ha : Same tm tm' args.toList := h.sub (by intro y hy; simp only [Op.operands, Call.operands, Array.toList_append, List.mem_append]; exact .inr hy)
  rw [opd_same (x := f) (h.sub (by intro y hy; simp only [Op.operands, Call.operands, Array.toList_append, List.mem_append]; exact .inl hy)), opds_same ha]

theorem loadArg_same {tm tm' : Tm} (op : Op) (h : Same tm tm' op.operands.toList) : loadArg op tm' = loadArg op tm := by
  cases op <;> simp only [loadArg]
  rw [opd_same (h.sub (by simp [Op.operands]))]

theorem tmpsIn_mem {t : Nat} : ∀ {xs : List Operand}, Operand.tmp t ∈ xs → t ∈ tmpsIn xs
  | [], h => by cases h
  | x :: r, h => by
    cases h with
    | head => simp [tmpsIn]
    | tail _ h =>
      have := tmpsIn_mem h
      cases x <;> simp [tmpsIn, this]

theorem Al.get_keep_mem {α : Type} (t : Al α) : ∀ (ks : List Nat) (n : Nat), n ∈ ks → Al.get (Al.keep t ks) n = Al.get t n
  | [], n, h => by cases h
  | k :: r, n, h => by
    unfold Al.keep
    by_cases hk : k = n
    · subst hk
      cases hg : Al.get t k with
      | none =>
        simp only []
        cases h2 : Al.get (Al.keep t r) k with
        | none => rfl
        | some x =>
          have := Al.get_keep t r k x h2
          rw [hg] at this; cases this
      | some x => simp only [Al.get_cons, if_true]
    · have hm : n ∈ r := by
        cases h with
        | head => exact (hk rfl).elim
        | tail _ h => exact h
      cases hg : Al.get t k with
      | none => exact Al.get_keep_mem t r n hm
      | some x => simp only [Al.get_cons, if_neg hk]; exact Al.get_keep_mem t r n hm

theorem Al.get_keep_not {α : Type} (t : Al α) : ∀ (ks : List Nat) (n : Nat), n ∉ ks → Al.get (Al.keep t ks) n = none
  | [], n, _ => rfl
  | k :: r, n, h => by
    unfold Al.keep
    have h1 : k ≠ n := fun e => h (by subst e; exact List.mem_cons_self)
    have h2 : n ∉ r := fun e => h (List.mem_cons_of_mem _ e)
    cases Al.get t k with
    | none => exact Al.get_keep_not t r n h2
    | some x => simp only [Al.get_cons, if_neg h1]; exact Al.get_keep_not t r n h2

/-- the slots that an operation names, alone -/
def own (all : List Oper) (o : Oper) (tm : Tm) : Tm := Al.keep tm (namesOf all o)

theorem own_same (all : List Oper) (o : Oper) (tm : Tm) : Same tm (own all o tm) o.op.operands.toList := fun t ht =>
  Al.get_keep_mem tm _ t (by unfold namesOf; simp only [List.mem_append]; exact .inl (.inr (tmpsIn_mem ht)))

theorem wantedP_own (all : List Oper) (o : Oper) (tm : Tm) : wantedP all o (own all o tm) = wantedP all o tm := by
  unfold wantedP
  cases hg : o.guard with
  | none => rfl
  | some jw =>
    obtain ⟨j, want⟩ := jw
    simp only []
    cases hd : dstAt all j with
    | none => rfl
    | some d =>
      simp only []
      unfold own
      rw [Al.get_keep_mem tm _ d (by unfold namesOf; simp [hg, hd])]
end Go.Ev
