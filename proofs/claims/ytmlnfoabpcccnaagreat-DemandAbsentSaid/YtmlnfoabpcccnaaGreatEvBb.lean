/- Regions that draw their order: the heap between two effects. -/
import Derived.Test.YtmlnfoabpcccnaaGreatEvBa
set_option linter.all false
/- Regions that draw their order: the heap between two effects. -/
namespace Go.Ev
variable [Env]
section
variable {P : Program} {T : Types} {R : Type} {w : World} {F : Fz} {M : Mp}

theorem BR.cut_le {n m : Nat} (hn : n ≤ m) {p : Pl} {b : Blk} (h : BR w F (cutM M n) p b) : BR w F (cutM M m) p b :=
  h.mono rfl (fun _ _ h => h) (fun _ _ _ => rfl) (fun i q hi => by
    obtain ⟨h1, h2⟩ := cutM_some hi
    rw [cutM_lt (by omega)]; exact h1) fun _ h => h

/-- the block that an allocation made, as it lies in the world -/
def Lies (w : World) (F : Fz) (M : Mp) (id : Nat) (blk : Blk) : Prop :=
  ∃ p, M id = some p ∧ BR w F (cutM M id) p blk ∧ (∀ j p', M j = some p' → p'.b = p.b → j = id) ∧ p.b < w.heap.size

theorem HS.ext_new {H : Hp} {blk : Blk} (hs : HS H w F (cutM M H.next)) (hx : M H.next = none ∨ Lies w F M H.next blk) : HS (H.new blk) w F (cutM M (H.new blk).next) := by
  have hnext : (H.new blk).next = H.next + 1 := rfl
  rw [hnext]
  have split : ∀ {id p}, cutM M (H.next + 1) id = some p → cutM M H.next id = some p ∨ (id = H.next ∧ M H.next = some p) := by
    intro id p h
    obtain ⟨h1, h2⟩ := cutM_some h
    by_cases hid : id = H.next
    · subst hid; exact .inr ⟨rfl, h1⟩
    · left; rw [cutM_lt (by omega)]; exact h1
  refine ⟨?_, ?_, ?_, ?_, hs.fw, hs.ms.mono (Nat.le_succ _) (fun _ _ => rfl) (fun _ _ h => h) (fun _ _ _ => rfl) (fun i q h => by
    obtain ⟨h1, h2⟩ := cutM_some h
    rw [cutM_lt (by omega)]; exact h1) fun i hi q h => by
    rw [cutM_lt hi]; exact (cutM_some h).1⟩
  · intro id b p hg hm
    rw [Hp.get_new] at hg
    by_cases hid : H.next = id
    · subst hid
      rw [if_pos rfl] at hg; cases hg
      have hm' := (cutM_some hm).1
      rcases hx with h | ⟨q, h1, h2, _, _⟩
      · rw [h] at hm'; cases hm'
      · rw [h1] at hm'; cases hm'
        exact h2.cut_le (by omega)
    · rw [if_neg hid] at hg
      rcases split hm with h | ⟨h, _⟩
      · exact (hs.br id b p hg h).cut_le (by omega)
      · exact (hid h.symm).elim
  · intro i j bi bj p q hi hj hp hq e
    rw [Hp.get_new] at hi hj
    rcases split hp with h1 | ⟨h1, h1'⟩
    · rcases split hq with h2 | ⟨h2, h2'⟩
      · have n1 : ¬ (H.next = i) := by have := (cutM_some h1).2; omega
        have n2 : ¬ (H.next = j) := by have := (cutM_some h2).2; omega
        rw [if_neg n1] at hi; rw [if_neg n2] at hj
        exact hs.inj i j bi bj p q hi hj h1 h2 e
      · subst h2
        rcases hx with h | ⟨q', k1, _, k3, _⟩
        · rw [h] at h2'; cases h2'
        · rw [k1] at h2'; cases h2'
          exact k3 i p (cutM_some h1).1 e
    · subst h1
      rcases hx with h | ⟨q', k1, _, k3, _⟩
      · rw [h] at h1'; cases h1'
      · rw [k1] at h1'; cases h1'
        exact (k3 j q (cutM_some hq).1 e.symm).symm
  · intro id p hm
    show id < H.next + 1 ∧ _
    refine ⟨(cutM_some hm).2, ?_⟩
    rcases split hm with h | ⟨h, h'⟩
    · exact (hs.lt id p h).2
    · rcases hx with k | ⟨q', k1, _, _, k4⟩
      · rw [k] at h'; cases h'
      · rw [k1] at h'; cases h'; exact k4
  · intro id b hg
    show id < H.next + 1
    rw [Hp.get_new] at hg
    by_cases hid : H.next = id
    · omega
    · rw [if_neg hid] at hg
      have := hs.fresh id b hg
      omega

/-- the evaluator's run of a region that draws its order -/
structure Cx (T : Types) (R : Type) (call : CallK R) (nt : Nat) (ops : Array Oper) (st0 st' : St) (tr : List Stp) : Prop where
  uni : UniCall call
  each : ∀ s ∈ tr, Each T R nt ops.toList call s
  chain : Chain st0 tr st'
  two : tr.Pairwise (Two T)
  sch : Sched ops tr

variable {call : CallK R} {nt : Nat} {ops : Array Oper} {st0 st' : St} {tr : List Stp}

theorem Cx.ea (c : Cx T R call nt ops st0 st' tr) {q : Nat} {s : Stp} (h : tr[q]? = some s) : Each T R nt ops.toList call s := c.each s (List.mem_of_getElem? h)
theorem Cx.st (c : Cx T R call nt ops st0 st' tr) {q : Nat} {s : Stp} (h : tr[q]? = some s) : s.st = stAt st0 tr q ∧ stAt st0 tr (q + 1) = s.after := c.chain.at.1 q s h
theorem Cx.tw (c : Cx T R call nt ops st0 st' tr) {q q' : Nat} {s s' : Stp} (h : tr[q]? = some s) (h' : tr[q']? = some s') (hq : q < q') : Two T s s' := by
  have h1 := (List.getElem?_eq_some_iff.1 h)
  have h2 := (List.getElem?_eq_some_iff.1 h')
  have := List.pairwise_iff_getElem.1 c.two q q' h1.1 h2.1 hq
  rw [h1.2, h2.2] at this
  exact this

/-- the heap before a step -/
def hpAt (st0 : St) (tr : List Stp) (q : Nat) : Hp := (stAt st0 tr q).hp

theorem Cx.hp (c : Cx T R call nt ops st0 st' tr) {q : Nat} {s : Stp} (h : tr[q]? = some s) : s.st.hp = hpAt st0 tr q ∧ s.h = hpAt st0 tr (q + 1) := by
  obtain ⟨h1, h2⟩ := c.st h
  exact ⟨by rw [h1]; rfl, by unfold hpAt; rw [h2]; rfl⟩

theorem Cx.mono (r : R) (c : Cx T R call nt ops st0 st' tr) {q : Nat} : ∀ {q' : Nat}, q ≤ q' → q' ≤ tr.length → (hpAt st0 tr q).next ≤ (hpAt st0 tr q').next
  | 0, h, _ => by have : q = 0 := by omega
                  subst this; exact Nat.le_refl _
  | q' + 1, h, hl => by
    by_cases he : q = q' + 1
    · subst he; exact Nat.le_refl _
    · have ih := Cx.mono r c (q := q) (q' := q') (by omega) (by omega)
      have hs : tr[q']? = some tr[q'] := List.getElem?_eq_getElem (by omega)
      obtain ⟨h1, h2⟩ := c.hp hs
      have := (c.ea hs).mono r c.uni
      rw [h1, h2] at this
      omega

/-- from one effect to the next the heap grows by allocations alone -/
theorem Cx.walk (r : R) (c : Cx T R call nt ops st0 st' tr) {d : Nat} (hs : HS (hpAt st0 tr d) w F (cutM M (hpAt st0 tr d).next)) : ∀ {q : Nat}, d ≤ q → q ≤ tr.length →
    (∀ x s, tr[x]? = some s → d ≤ x → x < q → ¬ s.eff) → (∀ x s blk, tr[x]? = some s → d ≤ x → x < q → s.alloc → s.h = s.st.hp.new blk → M s.st.hp.next = none ∨ Lies w F M s.st.hp.next blk) →
    HS (hpAt st0 tr q) w F (cutM M (hpAt st0 tr q).next)
  | 0, h, _, _, _ => by have : d = 0 := by omega
                        subst this; exact hs
  | q + 1, h, hl, hne, hx => by
    by_cases he : d = q + 1
    · subst he; exact hs
    · have ih := Cx.walk r c hs (q := q) (by omega) (by omega) (fun x s h1 h2 h3 => hne x s h1 h2 (by omega)) (fun x s blk h1 h2 h3 => hx x s blk h1 h2 (by omega))
      have hg : tr[q]? = some tr[q] := List.getElem?_eq_getElem (by omega)
      obtain ⟨h1, h2⟩ := c.hp hg
      rw [← h2]
      rw [← h1] at ih
      rcases (c.ea hg).heap r c.uni (hne q _ hg (by omega) (by omega)) with ⟨k, _⟩ | ⟨k, blk, k2⟩
      · rw [k]; exact ih
      · rw [k2]; exact ih.ext_new (hx q _ blk hg (by omega) (by omega) k k2)
end
end Go.Ev

/- Regions that draw their order: the invariant of a state on the way. -/
namespace Go.Ev
variable [Env]
section
variable {P : Program} {T : Types} {R : Type} {call : CallK R} {nt : Nat} {ops : Array Oper} {st0 st' : St} {tr : List Stp}

theorem Sched.before {ops : Array Oper} (c : Sched ops tr) : ∀ (q : Nat) (s : Stp), tr[q]? = some s → ∀ j, s.m.testBit j = true → ∃ q' s', q' < q ∧ tr[q']? = some s' ∧ s'.i = j := by
  intro q
  induction q using Nat.strongRecOn with
  | _ q ih =>
    intro s hs j hj
    obtain ⟨e, _, _, q', s', h1, h2, h3, h4⟩ := c.bits q s hs j hj
    rcases h4 with h4 | h4
    · exact ⟨q', s', h1, h2, h3.trans h4.symm⟩
    · obtain ⟨q'', s'', k1, k2, k3⟩ := ih q' h1 s' h2 j h4
      exact ⟨q'', s'', by omega, k2, k3⟩

/-- what an earlier step comes behind isn't a later one -/
theorem Sched.not_later {ops : Array Oper} (c : Sched ops tr) {q q' : Nat} {s s' : Stp} (h : tr[q]? = some s) (h' : tr[q']? = some s') (hq : q ≤ q') : s.m.testBit s'.i = false := by
  cases hb : s.m.testBit s'.i with
  | false => rfl
  | true =>
    obtain ⟨q1, s1, h1, h2, h3⟩ := c.before q s h _ hb
    have := c.inj q1 q' s1 s' h2 h' h3
    omega

/-- which step wrote a slot last -/
def Wrote (tr : List Stp) (st : St) (q : Nat) (t : Nat) (pv : PV) : Prop :=
  (∃ (q1 : Nat) (s1 : Stp), q1 < q ∧ tr[q1]? = some s1 ∧ s1.o.dst = some t ∧ s1.p = pv ∧ ∀ (q' : Nat) s', q1 < q' → q' < q → tr[q']? = some s' → s'.o.dst ≠ some t) ∨
  ((∀ (q' : Nat) s', q' < q → tr[q']? = some s' → s'.o.dst ≠ some t) ∧ Al.get st.tmps t = some pv)

theorem tm_at : ∀ {tr : List Stp} {st st' : St}, Chain st tr st' → ∀ (q : Nat), q ≤ tr.length → ∀ t pv, Al.get (stAt st tr q).tmps t = some pv → Wrote tr st q t pv
  | tr, st, st', hc, 0, hl, t, pv, h => .inr ⟨fun q' s' h => absurd h (Nat.not_lt_zero _), by rw [hc.at.2.2] at h; exact h⟩
  | tr, st, st', hc, q + 1, hl, t, pv, h => by
    have hs : tr[q]? = some tr[q] := List.getElem?_eq_getElem (by omega)
    obtain ⟨h1, h2⟩ := hc.at.1 q _ hs
    rw [h2] at h
    unfold Stp.after at h
    simp only [] at h
    have old : Al.get (stAt st tr q).tmps t = some pv → tr[q].o.dst ≠ some t → Wrote tr st (q + 1) t pv := by
      intro hg hd
      rcases tm_at hc q (by omega) t pv hg with ⟨q1, s1, k1, k2, k3, k4, k5⟩ | ⟨k1, k2⟩
      · refine .inl ⟨q1, s1, Nat.lt_succ_of_lt k1, k2, k3, k4, fun q' s' a1 a2 a3 => ?_⟩
        by_cases hq : q' = q
        · subst hq; rw [hs] at a3; cases a3; exact hd
        · exact k5 q' s' a1 (by omega) a3
      · refine .inr ⟨fun q' s' a1 a3 => ?_, k2⟩
        by_cases hq : q' = q
        · subst hq; rw [hs] at a3; cases a3; exact hd
        · exact k1 q' s' (by omega) a3
    cases hd : tr[q].o.dst with
    | none =>
      rw [hd] at h
      simp only [putT] at h
      rw [h1] at h
      exact old h (by rw [hd]; simp)
    | some d =>
      rw [hd] at h
      simp only [putT, Al.get_cons] at h
      by_cases hdt : d = t
      · subst hdt
        rw [if_pos rfl] at h
        exact .inl ⟨q, tr[q], by omega, hs, hd, by cases h; rfl, fun q' s' a1 a2 _ => by omega⟩
      · rw [if_neg hdt, h1] at h
        exact old h (by rw [hd]; intro e; cases e; exact hdt rfl)

/-- the invariant: D is done; d: behind the last effect that is done -/
structure DI (st0 : St) (tr : List Stp) (nt : Nat) (D : Nat → Prop) (w0 : World) (F0 : Fz) (M0 : Mp) (df : List Deferred) (a : Act) (w : World) (F : Fz) (M : Mp) (d : Nat) : Prop where
  size : a.tmps.size = nt
  defs : a.defers = df
  ext : Ext w0 w F0 F M0 M
  dl : d ≤ tr.length
  last : d = 0 ∨ ∃ (x : Nat) (s : Stp), d = x + 1 ∧ tr[x]? = some s ∧ s.eff
  ids : ∀ id p, M id = some p → id < st0.hp.next ∨ ∃ (q : Nat) (s : Stp), tr[q]? = some s ∧ D s.i ∧ s.st.hp.next ≤ id ∧ id < s.h.next
  blks : ∀ id p, M id = some p → p.b < w.heap.size
  tw : ∀ t (q : Nat) s, tr[q]? = some s → D s.i → s.o.dst = some t → (∀ (q' : Nat) s', q < q' → tr[q']? = some s' → D s'.i → s'.o.dst ≠ some t) → t < nt ∧ VR w F (cutM M s.h.next) s.p (a.tmps.getD t undef)
  t0 : ∀ t, (∀ (q : Nat) s, tr[q]? = some s → D s.i → s.o.dst ≠ some t) → ∀ pv, Al.get st0.tmps t = some pv → t < nt ∧ VR w F (cutM M st0.hp.next) pv (a.tmps.getD t undef)
  hs : HS (hpAt st0 tr d) w F (cutM M (hpAt st0 tr d).next)
  eff : ∀ (q : Nat) s, tr[q]? = some s → s.eff → (D s.i ↔ q < d)
  al : ∀ (q : Nat) s, tr[q]? = some s → s.alloc → q < d → D s.i
  ex : ∀ (q : Nat) s blk, tr[q]? = some s → s.alloc → d ≤ q → D s.i → s.h = s.st.hp.new blk → Lies w F M s.st.hp.next blk
  cl : ∀ (q : Nat) s, tr[q]? = some s → D s.i → ∀ j, s.m.testBit j = true → D j

variable {D : Nat → Prop} {w0 w : World} {F0 F : Fz} {M0 M : Mp} {df : List Deferred} {a : Act} {d : Nat}

/-- the slots that a step looks at, when its turn can come -/
theorem DI.own (r : R) (c : Cx T R call nt ops st0 st' tr) (I : DI st0 tr nt D w0 F0 M0 df a w F M d) {q : Nat} {s : Stp} (hq : tr[q]? = some s) (hD : ¬ D s.i) (hr : ∀ j, s.m.testBit j = true → D j) :
    TS (own ops.toList s.o s.st.tmps) a w F (cutM M s.st.hp.next) := by
  intro t pv hp
  have hmem : t ∈ namesOf ops.toList s.o := by
    rcases Classical.em (t ∈ namesOf ops.toList s.o) with h | h
    · exact h
    · unfold Ev.own at hp
      rw [Al.get_keep_not _ _ _ h] at hp; cases hp
  have hp := Al.get_keep _ _ _ _ hp
  have hlq := (List.getElem?_eq_some_iff.1 hq).1
  rw [(c.st hq).1] at hp
  have later : ∀ (q' : Nat) s', q ≤ q' → tr[q']? = some s' → D s'.i → s'.o.dst ≠ some t := by
    intro q' s' hqq hs' hDs hd
    rcases c.sch.slots q q' s s' t hq hs' hmem hd with h | h | h
    · subst h; rw [hq] at hs'; cases hs'; exact hD hDs
    · rw [c.sch.not_later hq hs' hqq] at h; cases h
    · exact hD (I.cl q' s' hs' hDs _ h)
  have hnext : (stAt st0 tr q).hp.next = (hpAt st0 tr q).next := rfl
  rcases tm_at c.chain q (by omega) t pv hp with ⟨q1, s1, k1, k2, k3, rfl, k5⟩ | ⟨k1, k2⟩
  · have hDs1 : D s1.i := by
      rcases c.sch.slots q q1 s s1 t hq k2 hmem k3 with h | h | h
      · omega
      · exact hr _ h
      · rw [c.sch.not_later k2 hq (by omega)] at h; cases h
    obtain ⟨g1, g2⟩ := I.tw t q1 s1 k2 hDs1 k3 fun q' s' a1 a2 a3 => by
      rcases Nat.lt_or_ge q' q with h | h
      · exact k5 q' s' a1 h a2
      · exact later q' s' h a2 a3
    refine ⟨by rw [I.size]; exact g1, g2.cut_le ?_⟩
    rw [(c.hp k2).2, (c.hp hq).1]
    exact c.mono r (by omega) (by omega)
  · obtain ⟨g1, g2⟩ := I.t0 t (fun q' s' a2 a3 => by
      rcases Nat.lt_or_ge q' q with h | h
      · exact k1 q' s' h a2
      · exact later q' s' h a2 a3) pv k2
    refine ⟨by rw [I.size]; exact g1, g2.cut_le ?_⟩
    rw [(c.hp hq).1]
    have := c.mono r (q := 0) (q' := q) (by omega) (by omega)
    unfold hpAt at this
    rw [c.chain.at.2.2] at this
    exact this

theorem VR.cut_ext {w' : World} {F' : Fz} {M' : Mp} {n : Nat} {p : PV} {v : Value} (h : VR w F (cutM M n) p v) (k : Ext w w' F F' M M') : VR w' F' (cutM M' n) p v :=
  h.mono k.mF k.cell fun i q hi => by
    obtain ⟨h1, h2⟩ := cutM_some hi
    rw [cutM_lt h2]; exact k.mM i q h1

/-- one step more -/
theorem DI.step (c : Cx T R call nt ops st0 st' tr) (I : DI st0 tr nt D w0 F0 M0 df a w F M d) {q : Nat} {s : Stp} (hq : tr[q]? = some s) (hD : ¬ D s.i) (hr : ∀ j, s.m.testBit j = true → D j) (hdst : dstOk nt s.o.dst = true)
    {w' : World} {F' : Fz} {M' : Mp} {d' : Nat} {v : Value} (hx : Ext w w' F F' M M') (hv : VR w' F' (cutM M' s.h.next) s.p v) (hd : d' ≤ tr.length) (last : d' = 0 ∨ ∃ (x : Nat) (s : Stp), d' = x + 1 ∧ tr[x]? = some s ∧ s.eff)
    (ids : ∀ id p, M' id = some p → (∃ p', M id = some p') ∨ id < st0.hp.next ∨ ∃ (q : Nat) (s1 : Stp), tr[q]? = some s1 ∧ (D s1.i ∨ s1.i = s.i) ∧ s1.st.hp.next ≤ id ∧ id < s1.h.next) (blks : ∀ id p, M' id = some p → p.b < w'.heap.size)
    (hs : HS (hpAt st0 tr d') w' F' (cutM M' (hpAt st0 tr d').next))
    (eff : ∀ (q : Nat) s', tr[q]? = some s' → s'.eff → ((D s'.i ∨ s'.i = s.i) ↔ q < d')) (al : ∀ (q : Nat) s', tr[q]? = some s' → s'.alloc → q < d' → D s'.i ∨ s'.i = s.i)
    (ex : ∀ (q : Nat) s' blk, tr[q]? = some s' → s'.alloc → d' ≤ q → (D s'.i ∨ s'.i = s.i) → s'.h = s'.st.hp.new blk → Lies w' F' M' s'.st.hp.next blk) :
    DI st0 tr nt (fun j => D j ∨ j = s.i) w0 F0 M0 df (a.put s.o.dst v) w' F' M' d' := by
  have hlt : ∀ t, s.o.dst = some t → t < nt := by
    intro t ht
    rw [ht] at hdst
    exact Nat.le_of_ble_eq_true hdst
  have keep : ∀ t, s.o.dst ≠ some t → (a.put s.o.dst v).tmps.getD t undef = a.tmps.getD t undef := by
    intro t ht
    cases hd : s.o.dst with
    | none => rfl
    | some e =>
      have : e ≠ t := fun h => ht (by rw [hd, h])
      simp [Act.put, Array.getElem?_setIfInBounds_ne this]
  refine ⟨by rw [put_size]; exact I.size, by rw [put_defers]; exact I.defs, I.ext.trans hx, hd, last, ?_, blks, ?_, ?_, hs, eff, al, ex, ?_⟩
  · intro id p h
    rcases ids id p h with ⟨p', h'⟩ | h'
    · rcases I.ids id p' h' with k | ⟨q', s', k1, k2, k3⟩
      · exact .inl k
      · exact .inr ⟨q', s', k1, .inl k2, k3⟩
    · exact h'
  · intro t q1 s1 h1 h2 h3 h4
    by_cases hqq : q1 = q
    · subst hqq
      rw [hq] at h1; cases h1
      refine ⟨hlt t h3, ?_⟩
      have : (a.put s.o.dst v).tmps.getD t undef = v := by
        have hlt2 : t < a.tmps.size := by rw [I.size]; exact hlt t h3
        rw [h3]
        simp [Act.put, hlt2]
      rw [this]; exact hv
    · have hne : s1.i ≠ s.i := fun h => hqq (c.sch.inj q1 q s1 s h1 hq h)
      have hD1 : D s1.i := by
        rcases h2 with h | h
        · exact h
        · exact (hne h).elim
      have hsd : s.o.dst ≠ some t := by
        intro hst
        rcases Nat.lt_or_ge q1 q with h | h
        · exact h4 q s h hq (.inr rfl) hst
        · have hmem : t ∈ namesOf ops.toList s1.o := by unfold namesOf; simp [h3]
          rcases c.sch.slots q1 q s1 s t h1 hq hmem hst with k | k | k
          · exact hqq k
          · exact hD (I.cl q1 s1 h1 hD1 _ k)
          · rw [c.sch.not_later hq h1 h] at k; cases k
      obtain ⟨g1, g2⟩ := I.tw t q1 s1 h1 hD1 h3 fun q' s' a1 a2 a3 => h4 q' s' a1 a2 (.inl a3)
      exact ⟨g1, by rw [keep t hsd]; exact g2.cut_ext hx⟩
  · intro t h1 pv hp
    have hsd : s.o.dst ≠ some t := h1 q s hq (.inr rfl)
    obtain ⟨g1, g2⟩ := I.t0 t (fun q' s' a1 a2 => h1 q' s' a1 (.inl a2)) pv hp
    exact ⟨g1, by rw [keep t hsd]; exact g2.cut_ext hx⟩
  · intro q1 s1 h1 h2 j hj
    by_cases hqq : q1 = q
    · subst hqq
      rw [hq] at h1; cases h1
      exact .inl (hr j hj)
    · rcases h2 with h | h
      · exact .inl (I.cl q1 s1 h1 h j hj)
      · exact (hqq (c.sch.inj q1 q s1 s h1 hq h)).elim
end
end Go.Ev

/- Regions that draw their order: steps that change no block that stands. -/
namespace Go.Ev
variable [Env]
open RowKit
section
variable {P : Program} {T : Types} {R : Type} {call : CallK R} {nt : Nat} {ops : Array Oper} {st0 st' : St} {tr : List Stp}
variable {D : Nat → Prop} {w0 w : World} {F0 F : Fz} {M0 M : Mp} {df : List Deferred} {a : Act} {d : Nat}

theorem Cx.same (c : Cx T R call nt ops st0 st' tr) {q q' : Nat} {s s' : Stp} (h : tr[q]? = some s) (h' : tr[q']? = some s') (hi : s'.i = s.i) : q' = q ∧ s' = s := by
  have := c.sch.inj q' q s' s h' h hi
  subst this
  rw [h] at h'; cases h'
  exact ⟨rfl, rfl⟩

/-- a step that leaves the world as it is -/
theorem DI.quiet (c : Cx T R call nt ops st0 st' tr) (I : DI st0 tr nt D w0 F0 M0 df a w F M d) {q : Nat} {s : Stp} (hq : tr[q]? = some s) (hD : ¬ D s.i) (hr : ∀ j, s.m.testBit j = true → D j) (hdst : dstOk nt s.o.dst = true)
    (he : ¬ s.eff) (ha : ¬ s.alloc) {v : Value} (hv : VR w F (cutM M s.h.next) s.p v) : DI st0 tr nt (fun j => D j ∨ j = s.i) w0 F0 M0 df (a.put s.o.dst v) w F M d := by
  refine I.step c hq hD hr hdst (Ext.refl w F M) hv I.dl I.last (fun id p h => .inl ⟨p, h⟩) I.blks I.hs ?_ ?_ ?_
  · intro q1 s1 h1 h2
    constructor
    · rintro (h | h)
      · exact (I.eff q1 s1 h1 h2).1 h
      · obtain ⟨rfl, rfl⟩ := c.same hq h1 h
        exact (he h2).elim
    · intro h; exact .inl ((I.eff q1 s1 h1 h2).2 h)
  · intro q1 s1 h1 h2 h3; exact .inl (I.al q1 s1 h1 h2 h3)
  · intro q1 s1 blk h1 h2 h3 h4 h5
    rcases h4 with h4 | h4
    · exact I.ex q1 s1 blk h1 h2 h3 h4 h5
    · obtain ⟨rfl, rfl⟩ := c.same hq h1 h4
      exact (ha h2).elim

/-- what a step not done will make isn't there -/
theorem DI.free (r : R) (c : Cx T R call nt ops st0 st' tr) (I : DI st0 tr nt D w0 F0 M0 df a w F M d) {q : Nat} {s : Stp} (hq : tr[q]? = some s) (hD : ¬ D s.i) {id : Nat} (h1 : s.st.hp.next ≤ id) (h2 : id < s.h.next) : M id = none := by
  cases hm : M id with
  | none => rfl
  | some p =>
    exfalso
    have hlq := (List.getElem?_eq_some_iff.1 hq).1
    rw [(c.hp hq).1] at h1
    rw [(c.hp hq).2] at h2
    rcases I.ids id p hm with k | ⟨q', s', k1, k2, k3, k4⟩
    · have := c.mono r (q := 0) (q' := q) (by omega) (by omega)
      have e : (hpAt st0 tr 0).next = st0.hp.next := by unfold hpAt; rw [c.chain.at.2.2]
      omega
    · have hlq' := (List.getElem?_eq_some_iff.1 k1).1
      rw [(c.hp k1).1] at k3
      rw [(c.hp k1).2] at k4
      rcases Nat.lt_trichotomy q' q with h | h | h
      · have := c.mono r (q := q' + 1) (q' := q) (by omega) (by omega)
        omega
      · subst h; rw [hq] at k1; cases k1; exact hD k2
      · have := c.mono r (q := q + 1) (q' := q') (by omega) (by omega)
        omega

/-- the heap before a step, where no effect stands between the last one done and it -/
theorem DI.hsAt (r : R) (c : Cx T R call nt ops st0 st' tr) (I : DI st0 tr nt D w0 F0 M0 df a w F M d) {q : Nat} (hq : q ≤ tr.length) (hd : d ≤ q) (hne : ∀ (x : Nat) s, tr[x]? = some s → d ≤ x → x < q → ¬ s.eff) :
    HS (hpAt st0 tr q) w F (cutM M (hpAt st0 tr q).next) := by
  refine c.walk r I.hs hd hq hne ?_
  intro x s blk h1 h2 h3 h4 h5
  by_cases hDs : D s.i
  · exact .inr (I.ex x s blk h1 h4 h2 hDs h5)
  · left
    refine I.free r c h1 hDs (Nat.le_refl _) ?_
    rw [h5]; show _ < s.st.hp.next + 1; omega

theorem HS.frame_alloc {H : Hp} (hs : HS H w F M) (o : Obj) : HS H (w.alloc o) F M where
  br := fun id b p hg hm => (hs.br id b p hg hm).mono (Below.heap_alloc w o p.b (hs.lt id p hm).2) (fun _ _ h => h)
    (fun b off h => World.cell?_of_block (a := ⟨b, off, none⟩) (Below.heap_alloc w o b (hs.fw b off h))) (fun _ _ h => h) fun _ h => h
  inj := hs.inj
  lt := fun id p h => ⟨(hs.lt id p h).1, by rw [alloc_size]; have := (hs.lt id p h).2; omega⟩
  fresh := hs.fresh
  fw := fun b o h => by rw [alloc_size]; have := hs.fw b o h; omega
  ms := hs.ms.mono (Nat.le_refl _) (fun b hb => Below.heap_alloc w o b hb.lt) (fun _ _ h => h) (fun b off h => World.cell?_of_block (a := ⟨b, off, none⟩) (Below.heap_alloc w o b (hs.fw b off h))) (fun _ _ h => h) fun _ _ _ h => h

theorem cutM_up {M : Mp} {n id : Nat} {p : Pl} (h : n ≤ id) : cutM (M.up id p) n = cutM M n := by
  funext i
  unfold cutM
  split
  · rw [Mp.up_ne _ _ (by omega)]
  · rfl

theorem Hp.new_inj {H : Hp} {b b' : Blk} (h : H.new b = H.new b') : b = b' := by
  simp only [Hp.new, Hp.mk.injEq, List.cons.injEq, Prod.mk.injEq, true_and] at h
  exact h.1.1

/-- a step that makes a block -/
theorem DI.allocates (r : R) (c : Cx T R call nt ops st0 st' tr) (I : DI st0 tr nt D w0 F0 M0 df a w F M d) {q : Nat} {s : Stp} (hq : tr[q]? = some s) (hD : ¬ D s.i) (hr : ∀ j, s.m.testBit j = true → D j) (hdst : dstOk nt s.o.dst = true)
    (ha : s.alloc) {res : Result Next} (g : GoodNA w F (cutM M s.st.hp.next) res s.p s.st.hp s.h) :
    ∃ w' M' v, res = .ok (.value v) w' ∧ DI st0 tr nt (fun j => D j ∨ j = s.i) w0 F0 M0 df (a.put s.o.dst v) w' F M' d := by
  obtain ⟨cs, ys, t, sz, v, hnew, hvl, hres, hvr⟩ := g
  have hlq := (List.getElem?_eq_some_iff.1 hq).1
  have hdq : d ≤ q := by
    rcases Nat.lt_or_ge q d with h | h
    · exact (hD (I.al q s hq ha h)).elim
    · exact h
  have hnx : s.h.next = s.st.hp.next + 1 := by rw [hnew]; rfl
  have hfree : M s.st.hp.next = none := I.free r c hq hD (Nat.le_refl _) (by omega)
  let pl : Pl := ⟨w.heap.size, 0, cs.length, ys.size, sz, false⟩
  have hx : Ext w (w.alloc (.cells ys t)) F F M (M.up s.st.hp.next pl) := Ext.alloc w F M _ _ pl hfree rfl I.hs.fw
  have hxc : ∀ n, ∀ i p, cutM M n i = some p → cutM (M.up s.st.hp.next pl) n i = some p := by
    intro n i p h
    obtain ⟨h1, h2⟩ := cutM_some h
    rw [cutM_lt h2]; exact hx.mM i p h1
  have hne : ¬ s.eff := fun he => by have h1 := he.2; rw [ha.2] at h1; cases h1
  refine ⟨_, _, v, hres, I.step c hq hD hr hdst hx ?_ I.dl I.last ?_ ?_ ?_ ?_ ?_ ?_⟩
  · exact hvr _ _ _ (by rw [cutM_lt (by omega), Mp.up_self])
  · intro id p h
    by_cases hid : id = s.st.hp.next
    · exact .inr (.inr ⟨q, s, hq, .inr rfl, by omega, by omega⟩)
    · rw [Mp.up_ne _ _ hid] at h; exact .inl ⟨p, h⟩
  · intro id p h
    rw [alloc_size]
    by_cases hid : id = s.st.hp.next
    · subst hid; rw [Mp.up_self] at h; cases h; show w.heap.size < _; omega
    · rw [Mp.up_ne _ _ hid] at h; have := I.blks id p h; omega
  · have hm := c.mono r hdq (Nat.le_of_lt hlq)
    rw [← (c.hp hq).1] at hm
    rw [cutM_up hm]
    exact I.hs.frame_alloc _
  · intro q1 s1 h1 h2
    constructor
    · rintro (h | h)
      · exact (I.eff q1 s1 h1 h2).1 h
      · obtain ⟨rfl, rfl⟩ := c.same hq h1 h
        exact (hne h2).elim
    · intro h; exact .inl ((I.eff q1 s1 h1 h2).2 h)
  · intro q1 s1 h1 h2 h3; exact .inl (I.al q1 s1 h1 h2 h3)
  · intro q1 s1 blk h1 h2 h3 h4 h5
    by_cases hsame : s1.i = s.i
    · obtain ⟨rfl, rfl⟩ := c.same hq h1 hsame
      have : blk = ⟨cs, sz, false, 0, t⟩ := Hp.new_inj (h5.symm.trans hnew)
      subst this
      refine ⟨pl, Mp.up_self _ _ _, ⟨rfl, rfl, rfl, ⟨ys, t, ?_, rfl, ?_, ?_⟩, ?_, fun _ => rfl, ys, by show (w.heap.push _)[w.heap.size]? = _; simp⟩, ?_, ?_⟩
      · show (w.heap.push _)[w.heap.size]? = _
        simp
      · have := hvl.1; simp [pl] at this ⊢; omega
      · intro o x hx'
        have ho : o < cs.length := (List.getElem?_eq_some_iff.1 hx').1
        have hl := hvl.1
        have hy : ys.toList[o]? = some ys.toList[o] := List.getElem?_eq_getElem (by omega)
        obtain ⟨g1, g2⟩ := hvl.2 o x _ hx' hy
        refine ⟨g1, ys.toList[o], ?_, g2.mono (fun _ _ h => h) hx.cell (hxc _)⟩
        simp only [pl, Nat.zero_add]
        simpa using hy
      · intro o _ hF; exact absurd (I.hs.fw _ _ hF) (Nat.lt_irrefl _)
      · intro j p' hj hb
        by_cases hid : j = s1.st.hp.next
        · exact hid
        · rw [Mp.up_ne _ _ hid] at hj
          have := I.blks j p' hj
          simp [pl] at hb; omega
      · rw [alloc_size]; show w.heap.size < _; omega
    · have hD1 : D s1.i := by
        rcases h4 with h | h
        · exact h
        · exact (hsame h).elim
      obtain ⟨p, k1, k2, k3, k4⟩ := I.ex q1 s1 blk h1 h2 h3 hD1 h5
      refine ⟨p, hx.mM _ _ k1, k2.mono (Below.heap_alloc w _ p.b k4) (fun _ _ h => h) hx.cell (hxc _) (fun _ h => h), ?_, by rw [alloc_size]; omega⟩
      intro j p' hj hb
      by_cases hid : j = s.st.hp.next
      · subst hid; rw [Mp.up_self] at hj; cases hj; simp [pl] at hb; omega
      · rw [Mp.up_ne _ _ hid] at hj; exact k3 j p' hj hb
end
end Go.Ev

/- Regions that draw their order: an effect. -/
namespace Go.Ev
variable [Env]
section
variable {P : Program} {T : Types} {R : Type} {call : CallK R} {nt : Nat} {ops : Array Oper} {st0 st' : St} {tr : List Stp}
variable {D : Nat → Prop} {w0 w : World} {F0 F : Fz} {M0 M : Mp} {df : List Deferred} {a : Act} {d : Nat}

/-- which step made a block -/
theorem Cx.made (c : Cx T R call nt ops st0 st' tr) : ∀ (q : Nat), q ≤ tr.length → ∀ id, id < (hpAt st0 tr q).next → id < st0.hp.next ∨ ∃ (q1 : Nat) (s1 : Stp), q1 < q ∧ tr[q1]? = some s1 ∧ s1.st.hp.next ≤ id ∧ id < s1.h.next
  | 0, _, id, h => by unfold hpAt at h; rw [c.chain.at.2.2] at h; exact .inl h
  | q + 1, hl, id, h => by
    rcases Nat.lt_or_ge id (hpAt st0 tr q).next with h1 | h1
    · rcases Cx.made c q (by omega) id h1 with k | ⟨q1, s1, k1, k2⟩
      · exact .inl k
      · exact .inr ⟨q1, s1, by omega, k2⟩
    · have hs : tr[q]? = some tr[q] := List.getElem?_eq_getElem (by omega)
      obtain ⟨g1, g2⟩ := c.hp hs
      exact .inr ⟨q, tr[q], by omega, hs, by rw [g1]; exact h1, by rw [g2]; exact h⟩

/-- an effect whose turn can come: every effect and every allocation before it is done -/
theorem DI.turn (c : Cx T R call nt ops st0 st' tr) (I : DI st0 tr nt D w0 F0 M0 df a w F M d) {q : Nat} {s : Stp} (hq : tr[q]? = some s) (hD : ¬ D s.i) (hr : ∀ j, s.m.testBit j = true → D j) (he : s.eff) :
    d ≤ q ∧ (∀ (x : Nat) s1, tr[x]? = some s1 → x < q → s1.eff → D s1.i) ∧ (∀ (x : Nat) s1, tr[x]? = some s1 → x < q → s1.alloc → D s1.i) ∧ ∀ (x : Nat) s1, tr[x]? = some s1 → d ≤ x → x < q → ¬ s1.eff := by
  have h1 : d ≤ q := by
    rcases Nat.lt_or_ge q d with h | h
    · exact (hD ((I.eff q s hq he).2 h)).elim
    · exact h
  have h2 : ∀ (x : Nat) s1, tr[x]? = some s1 → x < q → s1.eff → D s1.i := fun x s1 k1 k2 k3 => hr _ ((c.tw k1 hq k2).ee k3 he)
  refine ⟨h1, h2, fun x s1 k1 k2 k3 => hr _ ((c.tw k1 hq k2).ae k3 he), fun x s1 k1 k2 k3 k4 => ?_⟩
  have := (I.eff x s1 k1 k4).1 (h2 x s1 k1 k3 k4)
  omega

theorem DI.effect (r : R) (c : Cx T R call nt ops st0 st' tr) (I : DI st0 tr nt D w0 F0 M0 df a w F M d) {q : Nat} {s : Stp} (hq : tr[q]? = some s) (hD : ¬ D s.i) (hr : ∀ j, s.m.testBit j = true → D j) (hdst : dstOk nt s.o.dst = true)
    (he : s.eff) {w' : World} {F' : Fz} {M'' : Mp} {v : Value} (hs : HS s.h w' F' M'') (hx : Ext w w' F F' (cutM M s.st.hp.next) M'') (hv : VR w' F' M'' s.p v) :
    ∃ M', DI st0 tr nt (fun j => D j ∨ j = s.i) w0 F0 M0 df (a.put s.o.dst v) w' F' M' (q + 1) := by
  obtain ⟨hdq, heff, hal, _⟩ := I.turn c hq hD hr he
  have hlq := (List.getElem?_eq_some_iff.1 hq).1
  let M' : Mp := fun i => if i < s.h.next then M'' i else M i
  have hM1 : ∀ {i}, i < s.h.next → M' i = M'' i := fun h => if_pos h
  have hM2 : ∀ {i}, s.h.next ≤ i → M' i = M i := fun h => if_neg (by omega)
  have hcut : cutM M' s.h.next = M'' := by
    funext i
    by_cases h : i < s.h.next
    · rw [cutM_lt h, hM1 h]
    · unfold cutM
      rw [if_neg h]
      cases hm : M'' i with
      | none => rfl
      | some p => exact (h (hs.lt i p hm).1).elim
  have hE : Ext w w' F F' M M' := by
    refine ⟨hx.os, hx.tape, hx.output, hx.size, fun b hb hn => hx.keep b hb fun i p h => hn i p (cutM_some h).1, hx.cell, ?_, hx.mF, ?_, ?_⟩
    · intro i p h
      rcases Nat.lt_or_ge i s.h.next with h1 | h1
      · rcases Nat.lt_or_ge i s.st.hp.next with h2 | h2
        · rw [hM1 h1]; exact hx.mM i p (by rw [cutM_lt h2]; exact h)
        · rw [I.free r c hq hD h2 h1] at h; cases h
      · rw [hM2 h1]; exact h
    · intro i p h
      rcases Nat.lt_or_ge i s.h.next with h1 | h1
      · rw [hM1 h1] at h
        rcases hx.newM i p h with k | k | ⟨j, q', k1, k2⟩
        · exact .inl (cutM_some k).1
        · exact .inr (.inl k)
        · exact .inr (.inr ⟨j, q', (cutM_some k1).1, k2⟩)
      · rw [hM2 h1] at h; exact .inl h
    · intro b o h
      rcases hx.newF b o h with k | k | ⟨j, q', k1, k2⟩
      · exact .inl k
      · exact .inr (.inl k)
      · exact .inr (.inr ⟨j, q', (cutM_some k1).1, k2⟩)
  refine ⟨M', I.step c hq hD hr hdst hE (by rw [hcut]; exact hv) (by omega) (.inr ⟨q, s, rfl, hq, he⟩) ?_ ?_ ?_ ?_ ?_ ?_⟩
  · intro id p h
    rcases Nat.lt_or_ge id s.h.next with h1 | h1
    · right
      rw [(c.hp hq).2] at h1
      rcases c.made (q + 1) (by omega) id h1 with k | ⟨q1, s1, k1, k2, k3, k4⟩
      · exact .inl k
      · refine .inr ⟨q1, s1, k2, ?_, k3, k4⟩
        by_cases hqq : q1 = q
        · subst hqq; rw [hq] at k2; cases k2; exact .inr rfl
        · left
          by_cases hs1 : s1.eff
          · exact heff q1 s1 k2 (by omega) hs1
          · rcases (c.ea k2).heap r c.uni hs1 with ⟨g, _⟩ | ⟨g, _⟩
            · rw [g] at k4; omega
            · exact hal q1 s1 k2 (by omega) g
    · rw [hM2 h1] at h; exact .inl ⟨p, h⟩
  · intro id p h
    rcases Nat.lt_or_ge id s.h.next with h1 | h1
    · rw [hM1 h1] at h; exact (hs.lt id p h).2
    · rw [hM2 h1] at h; have := I.blks id p h; have := hx.size; omega
  · rw [← (c.hp hq).2, hcut]; exact hs
  · intro q1 s1 h1 h2
    constructor
    · rintro (h | h)
      · have := (I.eff q1 s1 h1 h2).1 h; omega
      · obtain ⟨rfl, rfl⟩ := c.same hq h1 h; omega
    · intro h
      by_cases hqq : q1 = q
      · subst hqq; rw [hq] at h1; cases h1; exact .inr rfl
      · exact .inl (heff q1 s1 h1 (by omega) h2)
  · intro q1 s1 h1 h2 h3
    by_cases hqq : q1 = q
    · subst hqq; rw [hq] at h1; cases h1; exact .inr rfl
    · exact .inl (hal q1 s1 h1 (by omega) h2)
  · intro q1 s1 blk h1 h2 h3 h4 h5
    have hD1 : D s1.i := by
      rcases h4 with h | h
      · exact h
      · obtain ⟨rfl, rfl⟩ := c.same hq h1 h; omega
    obtain ⟨p, k1, k2, k3, k4⟩ := I.ex q1 s1 blk h1 h2 (by omega) hD1 h5
    have hlq1 := (List.getElem?_eq_some_iff.1 h1).1
    have hge : s.h.next ≤ s1.st.hp.next := by
      rw [(c.hp hq).2, (c.hp h1).1]; exact c.mono r h3 (by omega)
    have hge2 : s.st.hp.next ≤ s.h.next := (c.ea hq).mono r c.uni
    have hno : ∀ j p', cutM M s.st.hp.next j = some p' → p'.b ≠ p.b := by
      intro j p' hj hb
      obtain ⟨g1, g2⟩ := cutM_some hj
      have := k3 j p' g1 hb
      omega
    refine ⟨p, by rw [hM2 hge]; exact k1, k2.mono (hx.keep p.b k4 fun i p' h => hno i p' h) hx.mF hx.cell ?_ ?_, ?_, Nat.lt_of_lt_of_le k4 hx.size⟩
    · intro i p' h
      obtain ⟨g1, g2⟩ := cutM_some h
      rw [cutM_lt g2]; exact hE.mM i p' g1
    · intro o h
      rcases hx.newF p.b o h with k | k | ⟨j, q', g1, g2⟩
      · exact k
      · omega
      · exact (hno j q' g1 g2).elim
    · intro j p' hj hb
      rcases Nat.lt_or_ge j s.h.next with g | g
      · rw [hM1 g] at hj
        rcases hx.newM j p' hj with k | k | ⟨j2, q2, g1, g2⟩
        · exact (hno j p' k hb).elim
        · omega
        · exact (hno j2 q2 g1 (g2.trans hb)).elim
      · rw [hM2 g] at hj; exact k3 j p' hj hb
end
end Go.Ev

/- Regions that draw their order: a load. -/
namespace Go.Ev
variable [Env]
section
variable {P : Program} {T : Types} {R : Type} {call : CallK R} {nt : Nat} {ops : Array Oper} {st0 st' : St} {tr : List Stp}
variable {D : Nat → Prop} {w0 w : World} {F0 F : Fz} {M0 M : Mp} {df : List Deferred} {a : Act} {d : Nat}

theorem least_of {p : Nat → Prop} (h : ∃ n, p n) : ∃ n, p n ∧ ∀ m, m < n → ¬ p m := by
  obtain ⟨n, h1, h2⟩ := exists_least h
  exact ⟨n, h1, fun m hm hp => by have := h2 m hp; omega⟩

theorem samePV_some {x : Option PV} {p : PV} (h : samePV x (some p) = true) : ∃ q, x = some q ∧ peq 1000 q p = true := by
  cases x with
  | none => simp [samePV] at h
  | some q => exact ⟨q, rfl, h⟩

/-- the heap holds what an allocation made, as long as no effect comes -/
theorem Cx.holds (r : R) (c : Cx T R call nt ops st0 st' tr) {q1 : Nat} {s1 : Stp} {blk : Blk} (h1 : tr[q1]? = some s1) (hb : s1.h = s1.st.hp.new blk) : ∀ {y : Nat}, q1 < y → y ≤ tr.length →
    (∀ (x : Nat) s, tr[x]? = some s → q1 < x → x < y → ¬ s.eff) → (hpAt st0 tr y).get s1.st.hp.next = some blk
  | 0, h, _, _ => by omega
  | y + 1, h, hl, hne => by
    by_cases he : q1 = y
    · subst he
      rw [← (c.hp h1).2, hb, Hp.get_new, if_pos rfl]
    · have ih := Cx.holds r c h1 hb (y := y) (by omega) (by omega) fun x s a1 a2 a3 => hne x s a1 a2 (by omega)
      have hs : tr[y]? = some tr[y] := List.getElem?_eq_getElem (by omega)
      obtain ⟨k1, k2⟩ := c.hp hs
      have hm := c.mono r (q := q1 + 1) (q' := y) (by omega) (by omega)
      have hn1 : s1.h.next = s1.st.hp.next + 1 := by rw [hb]; rfl
      rw [← (c.hp h1).2, ← k1] at hm
      rw [← k2]
      rcases (c.ea hs).heap r c.uni (hne y _ hs (by omega) (by omega)) with ⟨g, _⟩ | ⟨_, b, g⟩
      · rw [g, k1]; exact ih
      · rw [g, Hp.get_new, if_neg (by omega), k1]; exact ih

/-- a load from a block that was made behind the first effect that is not done yet -/
theorem DI.newer (r : R) (hT : TOk P T) (c : Cx T R call nt ops st0 st' tr) (I : DI st0 tr nt D w0 F0 M0 df a w F M d) {q : Nat} {s : Stp} (hq : tr[q]? = some s) (hr : ∀ j, s.m.testBit j = true → D j)
    {t : TypeId} {id off : Nat} (hload : s.load t id off) (h3 : loadAt T s.st.hp t (.ptr id off) = some s.p) {v : Value} (hv : VR w F (cutM M s.st.hp.next) (.ptr id off) v)
    {xx : Nat} {sx : Stp} (k1 : d ≤ xx) (k3 : tr[xx]? = some sx) (k4 : sx.eff) (hnew : sx.st.hp.next ≤ id) :
    ∃ y, (Instr.loadAt t v).run P w = .ok y w ∧ VR w F (cutM M s.st.hp.next) s.p y := by
  have hlq := (List.getElem?_eq_some_iff.1 hq).1
  have hlx := (List.getElem?_eq_some_iff.1 k3).1
  cases hv with
  | ptr hm =>
    rename_i p0
    obtain ⟨hm, hid⟩ := cutM_some hm
    rcases I.ids id p0 hm with h | ⟨q1, s1, h1, hD1, h2, h3'⟩
    · have := c.mono r (q := 0) (q' := xx) (by omega) (by omega)
      rw [← (c.hp k3).1] at this
      unfold hpAt at this
      rw [c.chain.at.2.2] at this
      omega
    · have hl1 := (List.getElem?_eq_some_iff.1 h1).1
      have hx1 : xx < q1 := by
        rcases Nat.lt_trichotomy q1 xx with h | h | h
        · have := c.mono r (q := q1 + 1) (q' := xx) (by omega) (by omega)
          rw [← (c.hp h1).2, ← (c.hp k3).1] at this
          omega
        · subst h; rw [k3] at h1; cases h1
          have := (I.eff q1 sx k3 k4).1 hD1
          omega
        · exact h
      have hne1 : ¬ s1.eff := fun he => by have := (I.eff q1 s1 h1 he).1 hD1; omega
      rcases (c.ea h1).heap r c.uni hne1 with ⟨g, _⟩ | ⟨ga, blk, g⟩
      · rw [g] at h3'; omega
      · have hn1 : s1.h.next = s1.st.hp.next + 1 := by rw [g]; rfl
        have hide : id = s1.st.hp.next := by omega
        subst hide
        have hq1 : q1 < q := by
          rcases Nat.lt_or_ge q1 q with h | h
          · exact h
          · have := c.mono r (q := q) (q' := q1) h (by omega)
            rw [← (c.hp hq).1, ← (c.hp h1).1] at this
            omega
        obtain ⟨pl, l1, l2, l3, l4⟩ := I.ex q1 s1 blk h1 ga (by omega) hD1 g
        have hpl : p0 = pl := by rw [hm] at l1; exact Option.some.inj l1
        subst hpl
        have key : ∃ p', partOf T t blk.cells off = some p' ∧ peq 1000 p' s.p = true ∨ partOf T t blk.cells off = some s.p := by
          by_cases hex : ∃ x, q1 < x ∧ x < q ∧ ∃ s2, tr[x]? = some s2 ∧ s2.eff
          · obtain ⟨yy, ⟨a1, a2, sy, a3, a4⟩, a5⟩ := least_of hex
            have hb := c.holds r h1 g (y := yy) a1 (by omega) fun x s2 b1 b2 b3 b4 => a5 x b3 ⟨b2, by omega, s2, b1, b4⟩
            rcases (c.tw a3 hq a2).el t _ off a4 hload with m | m | m
            · have := (I.eff yy sy a3 a4).1 (hr _ m); omega
            · have := c.mono r (q := q1 + 1) (q' := yy) (by omega) (by omega)
              rw [← (c.hp h1).2, ← (c.hp a3).1] at this
              omega
            · obtain ⟨p', m1, m2⟩ := samePV_some m
              rw [(c.hp a3).1] at m1
              unfold loadAt at m1
              simp only [hb] at m1
              exact ⟨p', .inl ⟨m1, m2⟩⟩
          · have hb := c.holds r h1 g (y := q) hq1 (by omega) fun x s2 b1 b2 b3 b4 => hex ⟨x, b2, b3, s2, b1, b4⟩
            rw [(c.hp hq).1] at h3
            unfold loadAt at h3
            simp only [hb] at h3
            exact ⟨s.p, .inr h3⟩
        have hs1 : HS ⟨[(s1.st.hp.next, blk)], s1.st.hp.next + 1, []⟩ w F (cutM M (s1.st.hp.next + 1)) := by
          refine ⟨?_, ?_, ?_, ?_, I.hs.fw, HM.nil⟩
          · intro i b p hg hp
            simp only [Hp.get, Al.get_cons] at hg
            by_cases hi : s1.st.hp.next = i
            · subst hi
              rw [if_pos rfl] at hg; cases hg
              have := (cutM_some hp).1
              rw [hm] at this; cases this
              exact l2.cut_le (by omega)
            · rw [if_neg hi] at hg; simp [Al.get] at hg
          · intro i j bi bj p q hi hj _ _ _
            simp only [Hp.get, Al.get_cons] at hi hj
            by_cases h1 : s1.st.hp.next = i
            · by_cases h2 : s1.st.hp.next = j
              · omega
              · rw [if_neg h2] at hj; simp [Al.get] at hj
            · rw [if_neg h1] at hi; simp [Al.get] at hi
          · intro i p h
            obtain ⟨g1, g2⟩ := cutM_some h
            exact ⟨g2, I.blks i p g1⟩
          · intro i b hg
            simp only [Hp.get, Al.get_cons] at hg
            by_cases hi : s1.st.hp.next = i
            · subst hi; exact Nat.lt_succ_self _
            · rw [if_neg hi] at hg; simp [Al.get] at hg
        have hv1 : VR w F (cutM M (s1.st.hp.next + 1)) (.ptr s1.st.hp.next off) (.pointer (some ⟨p0.b, p0.sh + off, none⟩)) := .ptr (by rw [cutM_lt (Nat.lt_succ_self _)]; exact hm)
        have hget : (⟨[(s1.st.hp.next, blk)], s1.st.hp.next + 1, []⟩ : Hp).get s1.st.hp.next = some blk := by simp [Hp.get, Al.get_cons]
        obtain ⟨p', ⟨m1, m2⟩ | m1⟩ := key
        · obtain ⟨y, n1, n2⟩ := loadAt_sound (P := P) hT hs1 hv1 (q := p') (by unfold loadAt; simp only [hget]; exact m1)
          exact ⟨y, n1, (peq_VR 1000 m2 n2).cut_le (by omega)⟩
        · obtain ⟨y, n1, n2⟩ := loadAt_sound (P := P) hT hs1 hv1 (q := s.p) (by unfold loadAt; simp only [hget]; exact m1)
          exact ⟨y, n1, n2.cut_le (by omega)⟩

theorem DI.loads (r : R) (hT : TOk P T) (c : Cx T R call nt ops st0 st' tr) (I : DI st0 tr nt D w0 F0 M0 df a w F M d) {q : Nat} {s : Stp} (hq : tr[q]? = some s) (hD : ¬ D s.i) (hr : ∀ j, s.m.testBit j = true → D j)
    (hb : s.b = true) (hk : opKind s.o.op = .load) (e : prim T s.o.op s.st.hp s.st.tmps = some (s.p, s.h)) :
    s.h = s.st.hp ∧ ∃ v, (execOp a.eval s.o).run P w = .ok (.value v) w ∧ VR w F (cutM M s.h.next) s.p v := by
  have ht := I.own r c hq hD hr
  obtain ⟨t, x, q0, h1, h2, h3, h4⟩ := prim_load s.o hk e
  refine ⟨h4, ?_⟩
  rw [h4]
  have hx : opd x (Ev.own ops.toList s.o s.st.tmps) = some q0 := by
    rw [opd_same ((own_same ops.toList s.o s.st.tmps).sub (by rw [h1]; simp [Op.operands]))]; exact h2
  have hv := ht.opd hx
  have fin : ∀ {y}, (Instr.loadAt t (a.eval x)).run P w = .ok y w → (execOp a.eval s.o).run P w = .ok (.value y) w := fun h => by simp [execOp, h1, h]
  obtain ⟨t', q', g1, g2⟩ := (c.ea hq).2.2.2.1 hb hk
  have hla : loadArg s.o.op s.st.tmps = some (t, q0) := by rw [h1]; simp [loadArg, h2]
  rw [hla] at g1
  cases g1
  have hlq := (List.getElem?_eq_some_iff.1 hq).1
  rcases g2 with ⟨id, off, rfl, hids⟩ | ⟨cs, off, rfl⟩
  · have hload : s.load t id off := ⟨hb, hk, hla⟩
    have hneff : ¬ s.eff := fun he => by have := he.2; rw [hk] at this; cases this
    rcases Nat.lt_or_ge q d with hqd | hqd
    · rcases I.last with k | ⟨xx, sx, k1, k2, k3⟩
      · omega
      · have hqx : q ≠ xx := fun h => by subst h; rw [hq] at k2; cases k2; exact hneff k3
        have hDx : D sx.i := (I.eff xx sx k2 k3).2 (by omega)
        rcases (c.tw hq k2 (by omega)).le t id off hload k3 with m | m
        · exact (hD (I.cl xx sx k2 hDx _ m)).elim
        · obtain ⟨p', m1, m2⟩ := samePV_some m
          rw [(c.hp k2).2, ← k1] at m1
          have hmono := c.mono r (q := q) (q' := d) (by omega) I.dl
          rw [← (c.hp hq).1] at hmono
          obtain ⟨y, n1, n2⟩ := loadAt_sound (P := P) hT I.hs (hv.cut_le hmono) m1
          exact ⟨y, fin n1, VR.cut 1000 hids (peq_VR 1000 m2 n2).upTo⟩
    · by_cases hex : ∃ x, d ≤ x ∧ x < q ∧ ∃ s1, tr[x]? = some s1 ∧ s1.eff
      · obtain ⟨xx, ⟨k1, k2, sx, k3, k4⟩, k5⟩ := least_of hex
        have hsx := I.hsAt r c (q := xx) (by omega) k1 fun y s1 a1 a2 a3 a4 => k5 y a3 ⟨a2, by omega, s1, a1, a4⟩
        rcases (c.tw k3 hq k2).el t id off k4 hload with m | m | m
        · have := (I.eff xx sx k3 k4).1 (hr _ m); omega
        · obtain ⟨y, n1, n2⟩ := I.newer r hT c hq hr hload h3 hv k1 k3 k4 m
          exact ⟨y, fin n1, n2⟩
        · obtain ⟨p', m1, m2⟩ := samePV_some m
          rw [(c.hp k3).1] at m1
          have hlt : id < (hpAt st0 tr xx).next := by
            unfold loadAt at m1
            cases hg : (hpAt st0 tr xx).get id with
            | none => simp [hg] at m1
            | some b => exact hsx.fresh id b hg
          have hv' : VR w F (cutM M (hpAt st0 tr xx).next) (.ptr id off) (a.eval x) := by
            generalize a.eval x = v at hv
            cases hv with
            | ptr hm => exact .ptr (by rw [cutM_lt hlt]; exact (cutM_some hm).1)
          obtain ⟨y, n1, n2⟩ := loadAt_sound (P := P) hT hsx hv' m1
          have hmono := c.mono r (q := xx) (q' := q) (by omega) (by omega)
          rw [← (c.hp hq).1] at hmono
          exact ⟨y, fin n1, (peq_VR 1000 m2 n2).cut_le hmono⟩
      · have hsq := I.hsAt r c (q := q) (by omega) hqd fun y s1 a1 a2 a3 a4 => hex ⟨y, a2, a3, s1, a1, a4⟩
        rw [← (c.hp hq).1] at hsq
        obtain ⟨y, n1, n2⟩ := loadAt_sound (P := P) hT hsq hv h3
        exact ⟨y, fin n1, n2⟩
  · have hv' : VR w F noMap (.ep cs off) (a.eval x) := by
      generalize a.eval x = v at hv
      cases hv with
      | ep h4 h5 => exact .ep h4 h5
    obtain ⟨y, n1, n2⟩ := loadAt_sound (P := P) hT (HS.empty (w := w) (F := F) 0 I.hs.fw) hv' (by simpa [loadAt] using h3)
    exact ⟨y, fin n1, n2.mono (fun _ _ h => h) (fun _ _ _ => rfl) fun _ _ h => by cases h⟩
end
end Go.Ev

/- Regions that draw their order: whatever order is drawn, the code comes to what the evaluator comes to. -/
namespace Go.Ev
variable [Env]
section
variable {P : Program} {T : Types} {R : Type} {call : CallK R} {nt : Nat} {ops : Array Oper} {st0 st' : St} {tr : List Stp}
variable {D : Nat → Prop} {w0 w : World} {F0 F : Fz} {M0 M : Mp} {df : List Deferred} {a : Act} {d : Nat}

/-- one step whose turn can come -/
theorem DI.go (r : R) (hT : TOk P T) (hc : SoundCall P call) (c : Cx T R call nt ops st0 st' tr) (I : DI st0 tr nt D w0 F0 M0 df a w F M d) {q : Nat} {s : Stp} (hq : tr[q]? = some s) (hD : ¬ D s.i) (hr : ∀ j, s.m.testBit j = true → D j)
    {K : Act → World → Prop} {Q : Exit → Act → World → Prop} (hk : ∀ a' w' F' M' d', DI st0 tr nt (fun j => D j ∨ j = s.i) w0 F0 M0 df a' w' F' M' d' → K a' w') : wpOp P ops Q s.i K a w := by
  unfold wpOp
  rw [c.sch.op q s hq]
  simp only []
  obtain ⟨_, e, _, _⟩ := c.ea hq
  obtain ⟨h1, h2, h3⟩ := evStep_inv r c.uni e
  have ht := I.own r c hq hD hr
  have hw : Region.wanted s.o (yielded ops a.tmps) = s.b := wantedP_sound ht (by rw [wantedP_own]; exact h2)
  rw [hw]
  rcases h3 with ⟨hb, hp, hh⟩ | ⟨hb, h3⟩
  · rw [hb]
    rw [if_neg (by simp)]
    refine hk _ _ _ _ _ (I.quiet c hq hD hr h1 (fun he => ?_) (fun ha => ?_) (v := undef) (by rw [hp]; exact .un))
    · have := he.1; rw [hb] at this; cases this
    · have := ha.1; rw [hb] at this; cases this
  · rw [hb, if_pos rfl]
    left
    unfold Oper.wp
    have effCase : ∀ {w' F' M'' v}, s.eff → HS s.h w' F' M'' → Ext w w' F F' (cutM M s.st.hp.next) M'' → VR w' F' M'' s.p v → K (a.put s.o.dst v) w' := by
      intro w' F' M'' v he k1 k2 k3
      obtain ⟨M', k4⟩ := I.effect r c hq hD hr h1 he k1 k2 k3
      exact hk _ _ _ _ _ k4
    have hsE : s.eff → HS s.st.hp w F (cutM M s.st.hp.next) := by
      intro he
      obtain ⟨g1, _, _, g4⟩ := I.turn c hq hD hr he
      have hlq := (List.getElem?_eq_some_iff.1 hq).1
      have := I.hsAt r c (q := q) (by omega) g1 g4
      rw [← (c.hp hq).1] at this
      exact this
    rcases h3 with ⟨_, h3⟩ | ⟨f, l, h3, h4⟩
    · have h3' : prim T s.o.op s.st.hp (Ev.own ops.toList s.o s.st.tmps) = some (s.p, s.h) := by rw [prim_same T s.o.op s.st.hp (own_same ops.toList s.o s.st.tmps)]; exact h3
      cases hkd : opKind s.o.op with
      | bad => exact absurd hkd ((c.ea hq).2.2.2.2.1 hb)
      | conv =>
        obtain ⟨ck, cn, hpc⟩ := (c.ea hq).2.2.2.2.2 hb hkd
        rw [hpc] at h3'
        obtain ⟨g1, v, g2, g3⟩ := prim_conv_int hT ht s.o hkd h3'
        rw [g2]
        refine hk _ _ _ _ _ (I.quiet c hq hD hr h1 (fun he => ?_) (fun ha => ?_) (by rw [g1, hpc]; exact g3))
        · have := he.2; rw [hkd] at this; cases this
        · have := ha.2; rw [hkd] at this; cases this
      | pure =>
        obtain ⟨g1, v, g2, g3⟩ := prim_pure hT ht s.o hkd h3'
        rw [g2]
        refine hk _ _ _ _ _ (I.quiet c hq hD hr h1 (fun he => ?_) (fun ha => ?_) (by rw [g1]; exact g3))
        · have := he.2; rw [hkd] at this; cases this
        · have := ha.2; rw [hkd] at this; cases this
      | load =>
        obtain ⟨g1, v, g2, g3⟩ := I.loads r hT c hq hD hr hb hkd h3
        rw [g2]
        refine hk _ _ _ _ _ (I.quiet c hq hD hr h1 (fun he => ?_) (fun ha => ?_) g3)
        · have := he.2; rw [hkd] at this; cases this
        · have := ha.2; rw [hkd] at this; cases this
      | alloc =>
        obtain ⟨w', M', v, g1, g2⟩ := I.allocates r c hq hD hr h1 ⟨hb, hkd⟩ (prim_alloc (P := P) hT ht s.o hkd h3')
        rw [g1]
        exact hk _ _ _ _ _ g2
      | eff =>
        have he : s.eff := ⟨hb, hkd⟩
        obtain ⟨w', M', g1, g2, g3⟩ := prim_eff (P := P) hT (hsE he) ht s.o hkd h3'
        rcases g1 with ⟨v, g1, g4⟩ | ⟨g1, g4⟩
        · rw [g1]; exact effCase he g2 g3 g4
        · rw [g1]; exact effCase he g2 g3 (v := undef) (by rw [g4]; exact .un)
    · have he : s.eff := ⟨hb, enters_eff h3⟩
      have h3' : enters s.o.op (Ev.own ops.toList s.o s.st.tmps) = some (some (f, l)) := by rw [enters_same s.o.op (own_same ops.toList s.o s.st.tmps)]; exact h3
      obtain ⟨args, h7, h8⟩ := enters_run (P := P) ht h3'
      rw [h8 w]
      rcases hc f l s.st.hp s.p s.h h4 w F _ args (hsE he) h7 with ⟨h5, h6⟩ | ⟨v, w', h5, v', F', M', heq, g1, g2, g3⟩
      · rw [callFunc_enters h5]
        refine Calls.mono h6 ?_
        rintro e w' ⟨v, F', M', rfl, g1, g2, g3⟩
        exact effCase he g2 g3 g1
      · rw [h5]
        cases heq
        exact effCase he g2 g3 g1

/-- when all is done -/
theorem DI.done (r : R) (c : Cx T R call nt ops st0 st' tr) (I : DI st0 tr nt D w0 F0 M0 df a w F M d) (hall : ∀ (q : Nat) s, tr[q]? = some s → D s.i) : TS st'.tmps a w F (cutM M st'.hp.next) ∧ HS st'.hp w F (cutM M st'.hp.next) ∧ st0.hp.next ≤ st'.hp.next := by
  have hend : stAt st0 tr tr.length = st' := c.chain.at.2.1
  have hnx : (hpAt st0 tr tr.length).next = st'.hp.next := by unfold hpAt; rw [hend]
  have h0 : (hpAt st0 tr 0).next = st0.hp.next := by unfold hpAt; rw [c.chain.at.2.2]
  have hm0 := c.mono r (q := 0) (q' := tr.length) (by omega) (Nat.le_refl _)
  rw [hnx, h0] at hm0
  refine ⟨?_, ?_, hm0⟩
  · intro t pv hp
    rw [← hend] at hp
    rcases tm_at c.chain tr.length (Nat.le_refl _) t pv hp with ⟨q1, s1, k1, k2, k3, rfl, k5⟩ | ⟨k1, k2⟩
    · obtain ⟨g1, g2⟩ := I.tw t q1 s1 k2 (hall q1 s1 k2) k3 fun q' s' a1 a2 _ => k5 q' s' a1 (List.getElem?_eq_some_iff.1 a2).1 a2
      have hm := c.mono r (q := q1 + 1) (q' := tr.length) (by omega) (Nat.le_refl _)
      rw [hnx, ← (c.hp k2).2] at hm
      exact ⟨by rw [I.size]; exact g1, g2.cut_le hm⟩
    · obtain ⟨g1, g2⟩ := I.t0 t (fun q' s' a2 _ => k1 q' s' (List.getElem?_eq_some_iff.1 a2).1 a2) pv k2
      exact ⟨by rw [I.size]; exact g1, g2.cut_le hm0⟩
  · have := I.hsAt r c (q := tr.length) (Nat.le_refl _) I.dl fun x s h1 h2 h3 h4 => by
      have := (I.eff x s h1 h4).1 (hall x s h1)
      omega
    unfold hpAt at this
    rw [hend] at this
    exact this
end
end Go.Ev
