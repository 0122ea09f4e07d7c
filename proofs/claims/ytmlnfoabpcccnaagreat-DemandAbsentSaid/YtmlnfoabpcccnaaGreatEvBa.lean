/- An operation looks at the slots that it names alone. -/
import Derived.Test.YtmlnfoabpcccnaaGreatEvAj
set_option linter.all false
/- An operation looks at the slots that it names alone. -/
namespace Go.Ev
variable [Env]

def Same (tm tm' : Tm) (xs : List Operand) : Prop := ∀ t, Operand.tmp t ∈ xs → Al.get tm' t = Al.get tm t

theorem Same.sub {tm tm' : Tm} {xs ys : List Operand} (h : Same tm tm' xs) (hs : ∀ x ∈ ys, x ∈ xs) : Same tm tm' ys := fun t ht => h t (hs _ ht)

theorem opd_same {tm tm' : Tm} {x : Operand} (h : Same tm tm' [x]) : opd x tm' = opd x tm := by
  cases x with
  | tmp t => exact h t List.mem_cons_self
  | const v => simp only [opd]; cases flat v <;> rfl
  | func f => rfl
  | global g => rfl

theorem opds_same {tm tm' : Tm} : ∀ {xs : List Operand}, Same tm tm' xs → opds xs tm' = opds xs tm
  | [], _ => rfl
  | x :: r, h => by
    unfold opds
    rw [opd_same (h.sub (by simp)), opds_same (h.sub (by intro y hy; exact List.mem_cons_of_mem _ hy))]

theorem partsOf_same {tm tm' : Tm} : ∀ {ps : List (Nat × Operand)}, Same tm tm' (ps.map (·.2)) → partsOf ps tm' = partsOf ps tm
  | [], _ => rfl
  | (i, x) :: r, h => by
    unfold partsOf
    rw [opd_same (h.sub (by simp)), partsOf_same (h.sub (by intro y hy; exact List.mem_cons_of_mem _ hy))]

theorem opdO_same {tm tm' : Tm} {x : Option Operand} (h : Same tm tm' x.toList) : opdO x tm' = opdO x tm := by
  cases x with
  | none => rfl
  | some x => show someO (opd x tm') = someO (opd x tm); rw [opd_same (x := x) (h.sub (by simp))]

theorem prim_same (T : Types) {tm tm' : Tm} (op : Op) (hp : Hp) (h : Same tm tm' op.operands.toList) : prim T op hp tm' = prim T op hp tm := by
  cases op <;> simp only [prim] <;> try rfl
  case build t ps => rw [partsOf_same (h.sub (by simp [Op.operands]))]
  case buildSlice t n ps => rw [partsOf_same (h.sub (by simp [Op.operands]))]
  case makeFunc fn first caps => rw [opds_same (xs := first.toList) (h.sub (by simp [Op.operands]; intro x hx; exact .inl hx)), opds_same (xs := caps.toList) (h.sub (by simp [Op.operands]; intro x hx; exact .inr hx))]
  case makeMap t x => rw [opdO_same (x := x) (h.sub (by intro y hy; cases x <;> simp_all [Op.operands]))]
  case lookup t x k ok => rw [opd_same (x := x) (h.sub (by simp [Op.operands])), opd_same (x := k) (h.sub (by simp [Op.operands]))]
  case mapUpdate t x k v => rw [opd_same (x := x) (h.sub (by simp [Op.operands])), opd_same (x := k) (h.sub (by simp [Op.operands])), opd_same (x := v) (h.sub (by simp [Op.operands]))]
  case insert t x k v => rw [opd_same (x := x) (h.sub (by simp [Op.operands])), opd_same (x := k) (h.sub (by simp [Op.operands])), opd_same (x := v) (h.sub (by simp [Op.operands]))]
  case slice t x lo hi mx =>
    rw [opd_same (x := x) (h.sub (by simp [Op.operands])), opdO_same (x := lo) (h.sub ?_), opdO_same (x := hi) (h.sub ?_), opdO_same (x := mx) (h.sub ?_)]
    · intro y hy; simp only [Op.operands, Array.toList_append, List.mem_append]; right; cases mx <;> simp_all
    · intro y hy; simp only [Op.operands, Array.toList_append, List.mem_append]; left; right; cases hi <;> simp_all
    · intro y hy; simp only [Op.operands, Array.toList_append, List.mem_append]; left; left; right; cases lo <;> simp_all
  case call c =>
    obtain ⟨callee, args, ats⟩ := c
    cases callee <;> simp only []
    rename_i b
    have ha : Same tm tm' args.toList := h.sub (by intro y hy; simp only [Op.operands, Call.operands, Array.toList_append, List.mem_append]; exact .inr hy)
    cases b <;> simp only [primBuiltin]
    case max => rw [opds_same ha]
    case min => rw [opds_same ha]
    case len =>
      rcases hx : args.toList with _ | ⟨x, _ | ⟨y, r⟩⟩ <;> rcases ht : ats.toList with _ | ⟨t, _ | ⟨u, s⟩⟩ <;> simp only [] <;> try rfl
      rw [opd_same (x := x) (ha.sub (by intro z hz; rw [hx]; exact hz))]
    case cap =>
      rcases hx : args.toList with _ | ⟨x, _ | ⟨y, r⟩⟩ <;> rcases ht : ats.toList with _ | ⟨t, _ | ⟨u, s⟩⟩ <;> simp only [] <;> try rfl
      rw [opd_same (x := x) (ha.sub (by intro z hz; rw [hx]; exact hz))]
    case clear =>
      rcases hx : args.toList with _ | ⟨x, _ | ⟨y, r⟩⟩ <;> rcases ht : ats.toList with _ | ⟨t, _ | ⟨u, s⟩⟩ <;> simp only [] <;> try rfl
      rw [opd_same (x := x) (ha.sub (by intro z hz; rw [hx]; exact hz))]
    case unsafeSliceData =>
      rcases hx : args.toList with _ | ⟨x, _ | ⟨y, r⟩⟩ <;> simp only [] <;> try rfl
      rw [opd_same (x := x) (ha.sub (by intro z hz; rw [hx]; exact hz))]
    case unsafeString =>
      rcases hx : args.toList with _ | ⟨x, _ | ⟨y, _ | ⟨z, r⟩⟩⟩ <;> rcases ht : ats.toList with _ | ⟨t, _ | ⟨u, _ | ⟨v, s⟩⟩⟩ <;> simp only [] <;> try rfl
      rw [opd_same (x := x) (ha.sub (by intro z hz; rw [hx]; simp at hz; simp [hz])), opd_same (x := y) (ha.sub (by intro z hz; rw [hx]; simp at hz; simp [hz]))]
    case append =>
      rcases hx : args.toList with _ | ⟨x, _ | ⟨y, _ | ⟨z, r⟩⟩⟩ <;> rcases ht : ats.toList with _ | ⟨t, _ | ⟨u, _ | ⟨v, s⟩⟩⟩ <;> simp only [] <;> try rfl
      cases Nat.beq t u with
      | false =>
        simp only []
        rw [opd_same (x := x) (ha.sub (by intro z hz; rw [hx]; simp at hz; simp [hz])), opd_same (x := y) (ha.sub (by intro z hz; rw [hx]; simp at hz; simp [hz]))]
      | true =>
        simp only []
        rw [opd_same (x := x) (ha.sub (by intro z hz; rw [hx]; simp at hz; simp [hz])), opd_same (x := y) (ha.sub (by intro z hz; rw [hx]; simp at hz; simp [hz]))]
    case copy =>
      rcases hx : args.toList with _ | ⟨x, _ | ⟨y, _ | ⟨z, r⟩⟩⟩ <;> rcases ht : ats.toList with _ | ⟨t, _ | ⟨u, _ | ⟨v, s⟩⟩⟩ <;> simp only [] <;> try rfl
      cases Nat.beq t u with
      | false => rfl
      | true =>
        simp only []
        rw [opd_same (x := x) (ha.sub (by intro z hz; rw [hx]; simp at hz; simp [hz])), opd_same (x := y) (ha.sub (by intro z hz; rw [hx]; simp at hz; simp [hz]))]
  case move x => rw [opd_same (h.sub (by simp [Op.operands]))]
  case assign x => rw [opd_same (h.sub (by simp [Op.operands]))]
  case pick c x y => rw [opd_same (x := c) (h.sub (by simp [Op.operands])), opd_same (x := x) (h.sub (by simp [Op.operands])), opd_same (x := y) (h.sub (by simp [Op.operands]))]
  case box t x => rw [opd_same (h.sub (by simp [Op.operands]))]
  case load t x => rw [opd_same (h.sub (by simp [Op.operands]))]
  case store t x y => rw [opd_same (x := x) (h.sub (by simp [Op.operands])), opd_same (x := y) (h.sub (by simp [Op.operands]))]
  case nilCheck x => rw [opd_same (h.sub (by simp [Op.operands]))]
  case binOp op t x y yt => rw [opd_same (x := x) (h.sub (by simp [Op.operands])), opd_same (x := y) (h.sub (by simp [Op.operands]))]
  case unOp op t x => rw [opd_same (h.sub (by simp [Op.operands]))]
  case convert s d x => rw [opd_same (h.sub (by simp [Op.operands]))]
  case makeInterface t x => rw [opd_same (h.sub (by simp [Op.operands]))]
  case makeSlice t x y => rw [opd_same (x := x) (h.sub (by simp [Op.operands])), opd_same (x := y) (h.sub (by simp [Op.operands]))]
  case fieldAddr s x f => rw [opd_same (h.sub (by simp [Op.operands]))]
  case field s x f => rw [opd_same (h.sub (by simp [Op.operands]))]
  case indexAddr t x i => rw [opd_same (x := x) (h.sub (by simp [Op.operands])), opd_same (x := i) (h.sub (by simp [Op.operands]))]
  case index t x i => rw [opd_same (x := x) (h.sub (by simp [Op.operands])), opd_same (x := i) (h.sub (by simp [Op.operands]))]
  case extract x i => rw [opd_same (h.sub (by simp [Op.operands]))]

theorem enters_same {tm tm' : Tm} (op : Op) (h : Same tm tm' op.operands.toList) : enters op tm' = enters op tm := by
  cases op <;> simp only [enters]
  rename_i c
  obtain ⟨callee, args, ats⟩ := c
  cases callee <;> simp only []
  rename_i f
  have ha : Same tm tm' args.toList := h.sub (by intro y hy; simp only [Op.operands, Call.operands, Array.toList_append, List.mem_append]; exact .inr hy)
  rw [opd_same (x := f) (h.sub (by intro y hy; simp only [Op.operands, Call.operands, Array.toList_append, List.mem_append]; exact .inl hy)), opds_same ha]

theorem loadArg_same {tm tm' : Tm} (op : Op) (h : Same tm tm' op.operands.toList) : loadArg op tm' = loadArg op tm := by
  cases op <;> simp only [loadArg]
  rw [opd_same (h.sub (by simp [Op.operands]))]

theorem tmpsIn_mem {t : Nat} : ∀ {xs : List Operand}, Operand.tmp t ∈ xs → t ∈ tmpsIn xs
  | [], h => by cases h
  | x :: r, h => by
    cases h with
    | head => simp [tmpsIn]
    | tail _ h =>
      have := tmpsIn_mem h
      cases x <;> simp [tmpsIn, this]

theorem Al.get_keep_mem {α : Type} (t : Al α) : ∀ (ks : List Nat) (n : Nat), n ∈ ks → Al.get (Al.keep t ks) n = Al.get t n
  | [], n, h => by cases h
  | k :: r, n, h => by
    unfold Al.keep
    by_cases hk : k = n
    · subst hk
      cases hg : Al.get t k with
      | none =>
        simp only []
        cases h2 : Al.get (Al.keep t r) k with
        | none => rfl
        | some x =>
          have := Al.get_keep t r k x h2
          rw [hg] at this; cases this
      | some x => simp only [Al.get_cons, if_true]
    · have hm : n ∈ r := by
        cases h with
        | head => exact (hk rfl).elim
        | tail _ h => exact h
      cases hg : Al.get t k with
      | none => exact Al.get_keep_mem t r n hm
      | some x => simp only [Al.get_cons, if_neg hk]; exact Al.get_keep_mem t r n hm

theorem Al.get_keep_not {α : Type} (t : Al α) : ∀ (ks : List Nat) (n : Nat), n ∉ ks → Al.get (Al.keep t ks) n = none
  | [], n, _ => rfl
  | k :: r, n, h => by
    unfold Al.keep
    have h1 : k ≠ n := fun e => h (by subst e; exact List.mem_cons_self)
    have h2 : n ∉ r := fun e => h (List.mem_cons_of_mem _ e)
    cases Al.get t k with
    | none => exact Al.get_keep_not t r n h2
    | some x => simp only [Al.get_cons, if_neg h1]; exact Al.get_keep_not t r n h2

/-- the slots that an operation names, alone -/
def own (all : List Oper) (o : Oper) (tm : Tm) : Tm := Al.keep tm (namesOf all o)

theorem own_same (all : List Oper) (o : Oper) (tm : Tm) : Same tm (own all o tm) o.op.operands.toList := fun t ht =>
  Al.get_keep_mem tm _ t (by unfold namesOf; simp only [List.mem_append]; exact .inl (.inr (tmpsIn_mem ht)))

theorem wantedP_own (all : List Oper) (o : Oper) (tm : Tm) : wantedP all o (own all o tm) = wantedP all o tm := by
  unfold wantedP
  cases hg : o.guard with
  | none => rfl
  | some jw =>
    obtain ⟨j, want⟩ := jw
    simp only []
    cases hd : dstAt all j with
    | none => rfl
    | some d =>
      simp only []
      unfold own
      rw [Al.get_keep_mem tm _ d (by unfold namesOf; simp [hg, hd])]
end Go.Ev

/- Regions that draw their order: the cut of a map, equal values, heaps with a block more. -/
namespace Go.Ev
variable [Env]
section
variable {P : Program} {T : Types} {w : World} {F : Fz} {M : Mp}

def cutM (M : Mp) (n : Nat) : Mp := fun i => if i < n then M i else none

theorem cutM_some {M : Mp} {n i : Nat} {p : Pl} (h : cutM M n i = some p) : M i = some p ∧ i < n := by
  unfold cutM at h
  split at h
  · exact ⟨h, by assumption⟩
  · cases h
theorem cutM_lt {M : Mp} {n i : Nat} (h : i < n) : cutM M n i = M i := if_pos h

theorem VR.upTo {n : Nat} {p : PV} {y : Value} (h : VR w F (cutM M n) p y) : VR w F M p y := h.mono (fun _ _ h => h) (fun _ _ _ => rfl) fun _ _ h => (cutM_some h).1

theorem VR.cut_le {n m : Nat} (hn : n ≤ m) {p : PV} {y : Value} (h : VR w F (cutM M n) p y) : VR w F (cutM M m) p y := h.mono (fun _ _ h => h) (fun _ _ _ => rfl) fun i q h => by
  obtain ⟨h1, h2⟩ := cutM_some h
  rw [cutM_lt (by omega)]; exact h1

theorem VR.cut : ∀ (f : Nat) {n : Nat} {p : PV} {y : Value}, idsLt f n p = true → VR w F M p y → VR w F (cutM M n) p y
  | 0, _, _, _, h, _ => by simp [idsLt] at h
  | f + 1, n, p, y, h, hv => by
    cases hv with
    | v hx => exact .v hx
    | un => exact .un
    | sym => exact .sym
    | unk h => exact .unk h
    | agg hl hc hr =>
      simp only [idsLt, List.all_eq_true] at h
      exact .agg hl hc fun i c y h1 h2 => VR.cut f (h c (List.mem_of_getElem? h1)) (hr i c y h1 h2)
    | tup hl hr =>
      simp only [idsLt, List.all_eq_true] at h
      exact .tup hl fun i c y h1 h2 => VR.cut f (h c (List.mem_of_getElem? h1)) (hr i c y h1 h2)
    | clo hl hr =>
      simp only [idsLt, List.all_eq_true] at h
      exact .clo hl fun i c y h1 h2 => VR.cut f (h c (List.mem_of_getElem? h1)) (hr i c y h1 h2)
    | bnd hl hr =>
      simp only [idsLt, List.all_eq_true] at h
      exact .bnd hl fun i c y h1 h2 => VR.cut f (h c (List.mem_of_getElem? h1)) (hr i c y h1 h2)
    | top => exact .top
    | mp hm =>
      simp only [idsLt] at h
      exact .mp (by rw [cutM_lt (Nat.le_of_ble_eq_true h)]; exact hm)
    | sl h1 h2 h3 h4 h5 => exact .sl h1 h2 h3 h4 h5
    | ep h4 h5 => exact .ep h4 h5
    | ptr hm =>
      simp only [idsLt] at h
      exact .ptr (by rw [cutM_lt (Nat.le_of_ble_eq_true h)]; exact hm)
    | row hm h0 h1 h2 h3 =>
      simp only [idsLt] at h
      exact .row (by rw [cutM_lt (Nat.le_of_ble_eq_true h)]; exact hm) h0 h1 h2 h3

/-! ### equal values -/
theorem peq_cellOk : ∀ (f : Nat) {x y : PV}, peq f x y = true → cellOk x = cellOk y
  | 0, _, _, h => by simp [peq] at h
  | f + 1, x, y, h => by
    unfold peq at h
    split at h <;> first | rfl | (simp at h; done)

theorem ieqb_to {a b : Int} (h : ieqb a b = true) : a = b := by
  cases a <;> cases b <;> simp only [ieqb] at h <;> first | (cases h; done) | (rw [Nat.eq_of_beq_eq_true h])

mutual
theorem peq_VR : ∀ (f : Nat) {M : Mp} {x y : PV} {v : Value}, peq f x y = true → VR w F M x v → VR w F M y v
  | 0, _, _, _, _, h, _ => by simp [peq] at h
  | f + 1, M, x, y, v, h, hv => by
    unfold peq at h
    split at h
    · simp only [Bool.and_eq_true, decide_eq_true_eq] at h
      rw [← h.1, ← ieqb_to h.2]; exact hv
    · rw [← eq_of_beq h]; exact hv
    · rename_i a b
      have : a = b := by
        rw [bytesEq_eq] at h
        have h := eq_of_beq h
        cases a; cases b
        simp at h
        congr
      rw [← this]; exact hv
    · exact hv
    · exact hv
    · exact hv
    · exact hv
    · rw [← Nat.eq_of_beq_eq_true h]; exact hv
    · rw [← Nat.eq_of_beq_eq_true h]; exact hv
    · cases hv with
      | agg h1 h2 h3 =>
        obtain ⟨g1, g2, g3⟩ := peqL_VR f h h1 h3
        exact .agg g1 (fun i c hc => g3 i c hc h2) g2
    · cases hv with
      | tup h1 h3 =>
        obtain ⟨g1, g2, g3⟩ := peqL_VR f h h1 h3
        exact .tup g1 g2
    · rename_i es a fs b
      simp only [Bool.and_eq_true] at h
      have hab : b = true → a = true := by intro e; subst e; simpa using h.1
      cases hv with
      | sl h1 h2 h3 h4 h5 =>
        rename_i bb o cap sz fv
        obtain ⟨g1, g2, g3⟩ := peqE_VR f h.2 fv fun i j e c he hc => ⟨(h4 i j e c he hc).1, h5 i j e c he hc⟩
        have back : ∀ (i : Nat) g, fs[i]? = some g → ∃ e, es[i]? = some e ∧ e.length = g.length := by
          intro i g hg
          have hlt := (List.getElem?_eq_some_iff.1 hg).1
          have he : es[i]? = some es[i] := List.getElem?_eq_getElem (by omega)
          exact ⟨_, he, g2 i _ g he hg⟩
        have hres := VR.sl (w := w) (F := F) (M := M) (es := fs) (ex := b) (b := bb) (o := o) (cap := cap) (sz := sz) (f := fv) (by rw [← g1]; exact fun e => h1 (hab e)) (by rw [← g1]; exact h2)
          (fun i g hg => by obtain ⟨e, he, hl⟩ := back i g hg; rw [← hl]; exact h3 i e he)
          (fun i j g c hg hc => by
            obtain ⟨e, he, hl⟩ := back i g hg
            have hj := (List.getElem?_eq_some_iff.1 hc).1
            have he2 : e[j]? = some e[j] := List.getElem?_eq_getElem (by omega)
            have := h4 i j e _ he he2
            exact ⟨(g3 i j g c hg hc).1, this.2.1, this.2.2⟩)
          (fun i j g c hg hc => (g3 i j g c hg hc).2)
        rw [← g1] at hres
        exact hres
    · simp only [Bool.and_eq_true] at h
      obtain ⟨⟨⟨⟨h1, h2⟩, h3⟩, h4⟩, h5⟩ := h
      rw [← Nat.eq_of_beq_eq_true h1, ← Nat.eq_of_beq_eq_true h2, ← Nat.eq_of_beq_eq_true h3, ← Nat.eq_of_beq_eq_true h4, ← Nat.eq_of_beq_eq_true h5]
      exact hv
    · simp only [Bool.and_eq_true] at h
      rw [← Nat.eq_of_beq_eq_true h.1, ← Nat.eq_of_beq_eq_true h.2]
      exact hv
    · rw [← Nat.eq_of_beq_eq_true h]; exact hv
    · exact hv
    · cases h
theorem peqL_VR : ∀ (f : Nat) {M : Mp} {cs ds : List PV} {ys : List Value}, peqL f cs ds = true → ys.length = cs.length → (∀ (i : Nat) c y, cs[i]? = some c → ys[i]? = some y → VR w F M c y) →
    ys.length = ds.length ∧ (∀ (i : Nat) c y, ds[i]? = some c → ys[i]? = some y → VR w F M c y) ∧ ∀ (i : Nat) c, ds[i]? = some c → (∀ (i : Nat) c, cs[i]? = some c → cellOk c = true) → cellOk c = true
  | 0, _, _, _, _, h, _, _ => by simp [peqL] at h
  | f + 1, M, [], [], ys, h, hl, hr => ⟨hl, fun i c y hc => by simp at hc, fun i c hc => by simp at hc⟩
  | f + 1, M, [], _ :: _, ys, h, hl, hr => by simp [peqL] at h
  | f + 1, M, _ :: _, [], ys, h, hl, hr => by simp [peqL] at h
  | f + 1, M, a :: l, b :: m, ys, h, hl, hr => by
    simp only [peqL, Bool.and_eq_true] at h
    cases ys with
    | nil => simp at hl
    | cons y ys =>
      obtain ⟨g1, g2, g3⟩ := peqL_VR f h.2 (by simpa using hl) fun i c y hc hy => hr (i + 1) c y (by simpa using hc) (by simpa using hy)
      refine ⟨by simp [g1], ?_, ?_⟩
      · intro i c z hc hz
        cases i with
        | zero => simp at hc hz; subst hc; subst hz; exact peq_VR f h.1 (hr 0 a y rfl rfl)
        | succ i => exact g2 i c z (by simpa using hc) (by simpa using hz)
      · intro i c hc hall
        cases i with
        | zero => simp at hc; subst hc; rw [← peq_cellOk f h.1]; exact hall 0 a rfl
        | succ i => exact g3 i c (by simpa using hc) fun i c hc => hall (i + 1) c (by simpa using hc)
theorem peqE_VR : ∀ (f : Nat) {M : Mp} {es fs : List (List PV)}, peqE f es fs = true → ∀ (v : Nat → Nat → Value), (∀ (i j : Nat) e c, es[i]? = some e → e[j]? = some c → cellOk c = true ∧ VR w F M c (v i j)) →
    es.length = fs.length ∧ (∀ (i : Nat) e g, es[i]? = some e → fs[i]? = some g → e.length = g.length) ∧ ∀ (i j : Nat) g c, fs[i]? = some g → g[j]? = some c → cellOk c = true ∧ VR w F M c (v i j)
  | 0, _, _, _, h, _, _ => by simp [peqE] at h
  | f + 1, _, [], [], h, _, _ => ⟨rfl, fun i e g he => by simp at he, fun i j g c hg => by simp at hg⟩
  | f + 1, _, [], _ :: _, h, _, _ => by simp [peqE] at h
  | f + 1, _, _ :: _, [], h, _, _ => by simp [peqE] at h
  | f + 1, M, a :: l, b :: m, h, v, hv => by
    simp only [peqE, Bool.and_eq_true] at h
    obtain ⟨g1, g2, g3⟩ := peqE_VR f h.2 (fun i j => v (i + 1) j) fun i j e c he hc => hv (i + 1) j e c (by simpa using he) hc
    obtain ⟨k1, k2, k3⟩ := peqL_VR f (ys := (List.range a.length).map (v 0)) h.1 (by simp) fun i c y hc hy => by
      have hlt := (List.getElem?_eq_some_iff.1 hc).1
      simp [hlt] at hy
      subst hy
      exact (hv 0 i a c rfl hc).2
    have hab : a.length = b.length := by simpa using k1
    refine ⟨by simp [g1], ?_, ?_⟩
    · intro i e g he hg
      cases i with
      | zero => simp at he hg; subst he; subst hg; exact hab
      | succ i => exact g2 i e g (by simpa using he) (by simpa using hg)
    · intro i j g c hg hc
      cases i with
      | zero =>
        simp at hg; subst hg
        have hlt := (List.getElem?_eq_some_iff.1 hc).1
        exact ⟨k3 j c hc fun i c hc => (hv 0 i a c rfl hc).1, k2 j c _ hc (by simp [show j < a.length by omega])⟩
      | succ i => exact g3 i j g c (by simpa using hg) hc
end
end
end Go.Ev

/- Regions that draw their order: the evaluator's own run of one, step by step; what its log tells of two steps. -/
namespace Go.Ev
variable [Env]
section
variable {T : Types} {R : Type}

/-- a step of the evaluator's run: number, what it comes behind, operation, state before; was it wanted? the value; the heap behind -/
structure Stp where
  i : Nat
  m : Nat
  o : Oper
  st : St
  b : Bool
  p : PV
  h : Hp

def Stp.after (s : Stp) : St := ⟨putT s.st.tmps s.o.dst s.p, s.h⟩
def Stp.eff (s : Stp) : Prop := s.b = true ∧ opKind s.o.op = .eff
def Stp.alloc (s : Stp) : Prop := s.b = true ∧ opKind s.o.op = .alloc
def Stp.load (s : Stp) (t : TypeId) (id off : Nat) : Prop := s.b = true ∧ opKind s.o.op = .load ∧ loadArg s.o.op s.st.tmps = some (t, .ptr id off)

def Chain : St → List Stp → St → Prop
  | st, [], st' => st = st'
  | st, s :: r, st' => s.st = st ∧ Chain s.after r st'

/-- what holds of each step -/
def Each (T : Types) (R : Type) (nt : Nat) (all : List Oper) (call : CallK R) (s : Stp) : Prop :=
  all[s.i]? = some s.o ∧ (∀ next : Bool → PV → Hp → Option R, evStep T nt all s.o call s.st next = next s.b s.p s.h) ∧ (s.eff → s.st.hp.next ≤ s.h.next) ∧
  (s.b = true → opKind s.o.op = .load → ∃ t q, loadArg s.o.op s.st.tmps = some (t, q) ∧ ((∃ id off, q = .ptr id off ∧ idsLt 1000 s.st.hp.next s.p = true) ∨ ∃ cs off, q = .ep cs off)) ∧
  (s.b = true → opKind s.o.op ≠ .bad) ∧ (s.b = true → opKind s.o.op = .conv → ∃ k n, s.p = .v (.int k n))

def Pw (T : Types) : Lg → List Stp → Prop
  | _, [] => True
  | lg, s :: r => ∃ lg', logOf T s.o.op s.i s.m lg s.st s.b s.h s.p = some lg' ∧ Pw T lg' r

theorem trace_of (r : R) {call : CallK R} (hu : UniCall call) (nt : Nat) (all : List Oper) {st' : St} : ∀ (L : List (Nat × Nat)) (lg : Lg) (st : St), (∀ k, evOpsD T nt all L lg call st k = k st') →
    ∃ tr : List Stp, tr.map (fun s => (s.i, s.m)) = L ∧ Chain st tr st' ∧ (∀ s ∈ tr, Each T R nt all call s) ∧ Pw T lg tr
  | [], lg, st, e => by
    have := Uni.eq_of r e
    exact ⟨[], rfl, this, fun s h => by simp at h, trivial⟩
  | (i, m) :: L, lg, st, e => by
    unfold evOpsD at e
    cases ho : all[i]? with
    | none =>
      simp only [ho] at e
      have := e fun _ => some r
      cases this
    | some o =>
      simp only [ho] at e
      rcases evStep_uni (T := T) hu nt all o st with g | ⟨b, p, h, g⟩
      · have g' : ∀ k, evStep T nt all o call st k = none := g
        have := e fun _ => some r
        rw [g'] at this; cases this
      · have g' : ∀ k, evStep T nt all o call st k = k b p h := g
        cases hl : logOf T o.op i m lg st b h p with
        | none =>
          have := e fun _ => some r
          rw [g', hl] at this; cases this
        | some lg' =>
          have e' : ∀ k, evOpsD T nt all L lg' call ⟨putT st.tmps o.dst p, h⟩ k = k st' := fun k => by rw [← e k, g', hl]; rfl
          obtain ⟨tr, h1, h2, h3, h4⟩ := trace_of r hu nt all L lg' _ e'
          refine ⟨⟨i, m, o, st, b, p, h⟩ :: tr, by simp [h1], ⟨rfl, h2⟩, ?_, ⟨lg', hl, h4⟩⟩
          intro s hs
          cases hs with
          | tail _ hs => exact h3 s hs
          | head =>
            refine ⟨ho, g', ?_, ?_, ?_, ?_⟩
            · rintro ⟨q1, q2⟩
              simp only at q1 q2
              subst q1
              simp only [logOf, q2, logEff] at hl
              split at hl
              · rename_i hc
                simp only [Bool.and_eq_true] at hc
                exact Nat.le_of_ble_eq_true hc.2
              · cases hl
            · intro q1 q2
              simp only at q1 q2
              subst q1
              simp only [logOf, q2] at hl
              unfold logLoad at hl
              split at hl
              · rename_i t id off heq
                refine ⟨t, _, heq, .inl ⟨id, off, rfl, ?_⟩⟩
                split at hl
                · rename_i hc
                  simp only [Bool.and_eq_true] at hc
                  exact hc.2
                · cases hl
              · rename_i t cs off heq
                exact ⟨t, _, heq, .inr ⟨cs, off, rfl⟩⟩
              · cases hl
            · intro q1 q2
              simp only at q1 q2
              subst q1
              simp only [logOf, q2] at hl
              cases hl
            · intro q1 q2
              simp only at q1 q2
              subst q1
              simp only [logOf, q2] at hl
              split at hl
              · exact ⟨_, _, rfl⟩
              · cases hl

/-- what a step notes stays noted -/
theorem logOf_sub {op : Op} {i m : Nat} {lg lg' : Lg} {st : St} {b : Bool} {h : Hp} {p : PV} (e : logOf T op i m lg st b h p = some lg') :
    (∀ x ∈ lg.effs, x ∈ lg'.effs) ∧ (∀ x ∈ lg.allocs, x ∈ lg'.allocs) ∧ (∀ x ∈ lg.loads, x ∈ lg'.loads) := by
  unfold logOf at e
  cases b with
  | false => simp only [] at e; cases e; exact ⟨fun _ h => h, fun _ h => h, fun _ h => h⟩
  | true =>
    simp only [] at e
    cases hk : opKind op with
    | bad => simp only [hk] at e; cases e
    | conv =>
      simp only [hk] at e
      split at e
      · cases e; exact ⟨fun _ h => h, fun _ h => h, fun _ h => h⟩
      · cases e
    | pure => simp only [hk] at e; cases e; exact ⟨fun _ h => h, fun _ h => h, fun _ h => h⟩
    | alloc => simp only [hk] at e; cases e; exact ⟨fun _ h => h, fun _ h => List.mem_cons_of_mem _ h, fun _ h => h⟩
    | eff =>
      simp only [hk] at e
      unfold logEff at e
      split at e
      · cases e; exact ⟨fun _ h => List.mem_cons_of_mem _ h, fun _ h => h, fun _ h => h⟩
      · cases e
    | load =>
      simp only [hk] at e
      unfold logLoad at e
      split at e
      · split at e
        · cases e; exact ⟨fun _ h => h, fun _ h => h, fun _ h => List.mem_cons_of_mem _ h⟩
        · cases e
      · cases e; exact ⟨fun _ h => h, fun _ h => h, fun _ h => h⟩
      · cases e

theorem effsIn_mem {m : Nat} : ∀ {l : List (Nat × Hp)}, effsIn m l = true → ∀ x ∈ l, m.testBit x.1 = true
  | [], _, x, h => by cases h
  | (e, hp) :: r, h, x, hx => by
    simp only [effsIn, Bool.and_eq_true] at h
    cases hx with
    | head => exact h.1
    | tail _ hx => exact effsIn_mem h.2 x hx
theorem allocsIn_mem {m : Nat} : ∀ {l : List Nat}, allocsIn m l = true → ∀ x ∈ l, m.testBit x = true
  | [], _, x, h => by cases h
  | e :: r, h, x, hx => by
    simp only [allocsIn, Bool.and_eq_true] at h
    cases hx with
    | head => exact h.1
    | tail _ hx => exact allocsIn_mem h.2 x hx
theorem loadsKept_mem {m : Nat} {hp : Hp} : ∀ {l : List (Nat × TypeId × PV × PV)}, loadsKept T m hp l = true → ∀ x ∈ l, m.testBit x.1 = true ∨ samePV (loadAt T hp x.2.1 x.2.2.1) (some x.2.2.2) = true
  | [], _, x, h => by cases h
  | (j, t, p, y) :: r, h, x, hx => by
    simp only [loadsKept, Bool.and_eq_true, Bool.or_eq_true] at h
    cases hx with
    | head => exact h.1
    | tail _ hx => exact loadsKept_mem h.2 x hx
theorem loadOld_mem {m : Nat} {t : TypeId} {p y : PV} : ∀ {l : List (Nat × Hp)}, loadOld T m t p y l = true → ∀ x ∈ l, m.testBit x.1 = true ∨ isNew x.2 p = true ∨ samePV (loadAt T x.2 t p) (some y) = true
  | [], _, x, h => by cases h
  | (e, hp) :: r, h, x, hx => by
    simp only [loadOld, Bool.and_eq_true, Bool.or_eq_true] at h
    cases hx with
    | head => exact or_assoc.1 h.1
    | tail _ hx => exact loadOld_mem h.2 x hx

/-- what is noted is looked at by each later step -/
theorem Pw.seen : ∀ {tr : List Stp} {lg : Lg}, Pw T lg tr → ∀ s ∈ tr,
    (s.eff → (∀ x ∈ lg.effs, s.m.testBit x.1 = true) ∧ (∀ x ∈ lg.allocs, s.m.testBit x = true) ∧ (∀ x ∈ lg.loads, s.m.testBit x.1 = true ∨ samePV (loadAt T s.h x.2.1 x.2.2.1) (some x.2.2.2) = true)) ∧
    (∀ t id off, s.load t id off → ∀ x ∈ lg.effs, s.m.testBit x.1 = true ∨ isNew x.2 (.ptr id off) = true ∨ samePV (loadAt T x.2 t (.ptr id off)) (some s.p) = true)
  | [], _, _, s, h => by cases h
  | s0 :: r, lg, ⟨lg', h1, h2⟩, s, hs => by
    cases hs with
    | tail _ hs =>
      obtain ⟨k1, k2, k3⟩ := logOf_sub h1
      obtain ⟨g1, g2⟩ := Pw.seen h2 s hs
      refine ⟨fun he => ?_, fun t id off hl x hx => g2 t id off hl x (k1 x hx)⟩
      obtain ⟨q1, q2, q3⟩ := g1 he
      exact ⟨fun x hx => q1 x (k1 x hx), fun x hx => q2 x (k2 x hx), fun x hx => q3 x (k3 x hx)⟩
    | head =>
      refine ⟨?_, ?_⟩
      · rintro ⟨he1, he2⟩
        simp only [logOf, he1, he2, logEff] at h1
        split at h1
        · rename_i hc
          simp only [Bool.and_eq_true] at hc
          exact ⟨effsIn_mem hc.1.1.1, allocsIn_mem hc.1.1.2, loadsKept_mem hc.1.2⟩
        · cases h1
      · rintro t id off ⟨hl1, hl2, hl3⟩
        simp only [logOf, hl1, hl2, hl3, logLoad] at h1
        split at h1
        · rename_i hc
          simp only [Bool.and_eq_true] at hc
          exact loadOld_mem hc.1
        · cases h1

/-- two steps, the first before the second -/
structure Two (T : Types) (s1 s2 : Stp) : Prop where
  ee : s1.eff → s2.eff → s2.m.testBit s1.i = true
  ae : s1.alloc → s2.eff → s2.m.testBit s1.i = true
  le : ∀ t id off, s1.load t id off → s2.eff → s2.m.testBit s1.i = true ∨ samePV (loadAt T s2.h t (.ptr id off)) (some s1.p) = true
  el : ∀ t id off, s1.eff → s2.load t id off → s2.m.testBit s1.i = true ∨ s1.st.hp.next ≤ id ∨ samePV (loadAt T s1.st.hp t (.ptr id off)) (some s2.p) = true

theorem Pw.two : ∀ {tr : List Stp} {lg : Lg}, Pw T lg tr → tr.Pairwise (Two T)
  | [], _, _ => .nil
  | s0 :: r, lg, ⟨lg', h1, h2⟩ => by
    refine .cons (fun s hs => ?_) (Pw.two h2)
    obtain ⟨g1, g2⟩ := Pw.seen h2 s hs
    refine ⟨?_, ?_, ?_, ?_⟩
    · rintro ⟨a1, a2⟩ he
      simp only [logOf, a1, a2, logEff] at h1
      split at h1
      · cases h1; exact (g1 he).1 (s0.i, s0.st.hp) List.mem_cons_self
      · cases h1
    · rintro ⟨a1, a2⟩ he
      simp only [logOf, a1, a2] at h1
      cases h1; exact (g1 he).2.1 s0.i List.mem_cons_self
    · rintro t id off ⟨a1, a2, a3⟩ he
      simp only [logOf, a1, a2, a3, logLoad] at h1
      split at h1
      · cases h1; exact (g1 he).2.2 (s0.i, t, .ptr id off, s0.p) List.mem_cons_self
      · cases h1
    · rintro t id off ⟨a1, a2⟩ hl
      simp only [logOf, a1, a2, logEff] at h1
      split at h1
      · cases h1
        rcases g2 t id off hl (s0.i, s0.st.hp) List.mem_cons_self with g | g | g
        · exact .inl g
        · exact .inr (.inl (Nat.le_of_ble_eq_true g))
        · exact .inr (.inr g)
      · cases h1
end
end Go.Ev

/- Regions that draw their order: what a step does to the evaluator's heap. -/
namespace Go.Ev
variable [Env]
section
variable {P : Program} {T : Types} {R : Type}

theorem ret1_hp {hp h : Hp} {x : Option PV} {p : PV} (e : ret1 hp x = some (p, h)) : h = hp := (ret1_some e).2

theorem aggOf_hp {hp h : Hp} {x : Option (List PV)} {p : PV} (e : aggOf hp x = some (p, h)) : h = hp := by
  cases x <;> simp [aggOf] at e; exact e.2.symm
theorem lenRes_hp {hp h : Hp} {x : Option Nat} {p : PV} (e : lenRes hp x = some (p, h)) : h = hp := by
  cases x <;> simp [lenRes] at e; exact e.2.symm
theorem byteOf_hp {hp h : Hp} {x : Option UInt8} {p : PV} (e : byteOf hp x = some (p, h)) : h = hp := by
  cases x <;> simp [byteOf] at e; exact e.2.symm
theorem addOff_hp {hp h : Hp} {d : Nat} {x : Option PV} {p : PV} (e : addOff hp d x = some (p, h)) : h = hp := by
  unfold addOff at e
  split at e <;> first | (cases e; rfl) | (cases e; done)

theorem ask2_hp {o : AskOp} {n : Nat} {hp h : Hp} {i : Option PV} {p : PV} (e : ask2 T hp o n i = some (p, h)) : h = hp := by
  cases i with
  | none => cases e
  | some q => exact ret1_hp e
theorem prim_heap {op : Op} {hp h : Hp} {tm : Tm} {p : PV} (e : prim T op hp tm = some (p, h)) (hk : opKind op = .pure ∨ opKind op = .load ∨ opKind op = .conv) : h = hp := by
  cases op <;> simp only [prim] at e <;> try (first | (cases e; done) | exact ret1_hp e | (exfalso; revert hk; simp [opKind]; done))
  case pick c a b => unfold primPick at e; split at e <;> first | exact ret1_hp e | (cases e; done)
  case build t ps =>
    unfold primBuild at e
    split at e <;> try (cases e; done)
    split at e <;> try (cases e; done)
    unfold buildOf at e
    split at e
    · exact aggOf_hp e
    · split at e <;> try (cases e; done)
      split at e <;> try (cases e; done)
      exact aggOf_hp e
  case load t x => unfold primLoad at e; split at e <;> first | exact ret1_hp e | (cases e; done)
  case nilCheck x => unfold primNil at e; split at e <;> first | (cases e; rfl) | (cases e; done)
  case binOp o t x y yt =>
    unfold primBin at e
    split at e <;> try (cases e; done)
    split at e <;> first | exact ret1_hp e | (cases e; done)
  case unOp o t x => unfold primUn at e; split at e <;> first | exact ret1_hp e | (cases e; done)
  case convert s d x =>
    unfold primConv at e
    split at e
    · exact ret1_hp e
    unfold primConv0 at e
    split at e <;> try (cases e; done)
    split at e <;> try (cases e; done)
    split at e <;> try (cases e; done)
    · split at e <;> first | (cases e; rfl) | (cases e; done)
    · split at e <;> first | (cases e; rfl) | (cases e; done)
    · split at e
      · unfold bytesStr at e
        split at e <;> try (cases e; done)
        split at e <;> first | (cases e; rfl) | (cases e; done)
      · unfold convPtr at e
        repeat' (split at e)
        all_goals first | (cases e; rfl) | (cases e; done)
  case makeInterface t x =>
    unfold primIface at e
    split at e <;> try (cases e; done)
    split at e <;> try (cases e; done)
    split at e <;> first | (cases e; rfl) | (cases e; done)
  case makeFunc fn first caps =>
    unfold primFunc at e
    split at e <;> try (cases e; done)
    split at e
    · cases e; rfl
    · split at e <;> try (cases e; done)
      split at e <;> first | (cases e; rfl) | (cases e; done)
  case slice t x lo hi mx =>
    unfold primSlice at e
    split at e <;> try (cases e; done)
    split at e <;> try (cases e; done)
    split at e <;> try (cases e; done)
    split at e <;> first | exact ret1_hp e | (cases e; done)
  case fieldAddr s x f =>
    unfold primFieldAddr at e
    split at e <;> try (cases e; done)
    split at e <;> try (cases e; done)
    split at e <;> first | exact addOff_hp e | (cases e; done)
  case field s x f =>
    unfold primField at e
    split at e <;> try (cases e; done)
    split at e <;> first | exact ret1_hp e | (cases e; done)
  case indexAddr t x i =>
    unfold primIndexAddr at e
    split at e
    · exact ask2_hp e
    unfold primIndexAddr0 at e
    split at e <;> try (cases e; done)
    split at e <;> first | exact ret1_hp e | (cases e; done)
  case index t x i =>
    unfold primIndex at e
    split at e
    · exact ask2_hp e
    unfold primIndex0 at e
    split at e <;> try (cases e; done)
    split at e <;> try (cases e; done)
    unfold idxVal at e
    split at e <;> try (cases e; done)
    · split at e <;> first | exact byteOf_hp e | (cases e; done)
    · unfold idxAgg at e
      split at e <;> try (cases e; done)
      split at e <;> first | exact ret1_hp e | (cases e; done)
  case extract x i => unfold primExtract at e; split at e <;> first | exact ret1_hp e | (cases e; done)
  case call c =>
    obtain ⟨callee, args, ats⟩ := c
    cases callee <;> simp only [] at e <;> try (cases e; done)
    rename_i b
    cases b <;> simp only [primBuiltin] at e <;> try (first | (cases e; done) | (exfalso; revert hk; simp [opKind]; done))
    case len =>
      rcases hx : args.toList with _ | ⟨x, _ | ⟨y, r⟩⟩ <;> rcases ht : ats.toList with _ | ⟨t, _ | ⟨u, s⟩⟩ <;> simp only [hx, ht] at e <;> try (cases e; done)
      unfold primLen at e
      split at e
      · exact ret1_hp e
      unfold primLen0 at e
      split at e <;> try (cases e; done)
      split at e <;> try (cases e; done)
      split at e
      · exact lenRes_hp e
      · split at e <;> try (cases e; done)
        split at e <;> first | (cases e; rfl) | (cases e; done)
    case unsafeSliceData =>
      rcases hx : args.toList with _ | ⟨x, _ | ⟨y, r⟩⟩ <;> simp only [hx] at e <;> try (cases e; done)
      unfold sliceData at e
      split at e <;> try (cases e; done)
      · split at e <;> first | (cases e; rfl) | (cases e; done)
      · cases e; rfl
    case max => unfold primMin at e; split at e <;> first | exact ret1_hp e | (cases e; done)
    case min => unfold primMin at e; split at e <;> first | exact ret1_hp e | (cases e; done)

theorem prim_new {op : Op} {hp h : Hp} {tm : Tm} {p : PV} (e : prim T op hp tm = some (p, h)) (hk : opKind op = .alloc) : ∃ blk, h = hp.new blk := by
  cases op <;> simp only [prim] at e <;> try (first | (cases e; done) | (exfalso; revert hk; simp [opKind]; done))
  case alloc t => unfold primAlloc at e; split at e <;> first | (cases e; exact ⟨_, rfl⟩) | (cases e; done)
  case box t x =>
    unfold primBox at e
    split at e <;> try (cases e; done)
    split at e <;> try (cases e; done)
    unfold boxOf at e
    split at e <;> try (cases e; done)
    split at e <;> first | (cases e; exact ⟨_, rfl⟩) | (cases e; done)
  case buildSlice t n ps =>
    unfold primBuildSlice at e
    split at e <;> try (cases e; done)
    split at e <;> try (cases e; done)
    split at e <;> try (cases e; done)
    unfold buildSliceOf at e
    split at e <;> try (cases e; done)
    split at e <;> try (cases e; done)
    unfold rowOf at e
    split at e <;> first | (cases e; exact ⟨_, rfl⟩) | (cases e; done)
  case makeSlice t x y =>
    unfold primMake at e
    split at e <;> try (cases e; done)
    split at e <;> try (cases e; done)
    split at e <;> try (cases e; done)
    split at e <;> try (cases e; done)
    unfold makeOf at e
    split at e <;> first | (cases e; exact ⟨_, rfl⟩) | (cases e; done)
  case call c =>
    exfalso
    obtain ⟨callee, args, ats⟩ := c
    cases callee <;> simp only [opKind] at hk <;> try (cases hk; done)
    rename_i b
    cases b <;> simp at hk

theorem enters_eff {op : Op} {tm : Tm} {f : Nat} {l : List PV} (e : enters op tm = some (some (f, l))) : opKind op = .eff := by
  cases op <;> simp only [enters] at e <;> try (cases e; done)
  rename_i c
  obtain ⟨callee, args, ats⟩ := c
  cases callee <;> simp only [] at e <;> try (cases e; done)
  rfl

/-- what a step that is no effect does to the heap -/
theorem Each.heap (r : R) {call : CallK R} (hu : UniCall call) {nt : Nat} {all : List Oper} {s : Stp} (h : Each T R nt all call s) (hn : ¬ s.eff) : (s.h = s.st.hp ∧ ¬ s.alloc) ∨ (s.alloc ∧ ∃ blk, s.h = s.st.hp.new blk) := by
  obtain ⟨_, e, _, _, hbad, _⟩ := h
  obtain ⟨_, _, h3⟩ := evStep_inv r hu e
  rcases h3 with ⟨h3, _, h4⟩ | ⟨h3, ⟨_, h4⟩ | ⟨f, l, h4, _⟩⟩
  · exact .inl ⟨h4, fun ha => by have := ha.1; rw [h3] at this; cases this⟩
  · cases hk : opKind s.o.op with
    | bad => exact absurd hk (hbad h3)
    | conv => exact .inl ⟨prim_heap h4 (.inr (.inr hk)), fun ha => by have := ha.2; rw [hk] at this; cases this⟩
    | pure => exact .inl ⟨prim_heap h4 (.inl hk), fun ha => by have := ha.2; rw [hk] at this; cases this⟩
    | load => exact .inl ⟨prim_heap h4 (.inr (.inl hk)), fun ha => by have := ha.2; rw [hk] at this; cases this⟩
    | alloc => exact .inr ⟨⟨h3, hk⟩, prim_new h4 hk⟩
    | eff => exact (hn ⟨h3, hk⟩).elim
  · exact (hn ⟨h3, enters_eff h4⟩).elim

theorem Each.mono (r : R) {call : CallK R} (hu : UniCall call) {nt : Nat} {all : List Oper} {s : Stp} (h : Each T R nt all call s) : s.st.hp.next ≤ s.h.next := by
  by_cases hn : s.eff
  · exact h.2.2.1 hn
  · rcases h.heap r hu hn with ⟨h1, _⟩ | ⟨_, blk, h1⟩
    · rw [h1]; exact Nat.le_refl _
    · rw [h1]; show _ ≤ s.st.hp.next + 1; omega

/-! ### the states of the evaluator's run -/
def stAt : St → List Stp → Nat → St
  | st, [], _ => st
  | st, _ :: _, 0 => st
  | _, s :: r, q + 1 => stAt s.after r q

theorem Chain.at : ∀ {tr : List Stp} {st st' : St}, Chain st tr st' → (∀ (q : Nat) s, tr[q]? = some s → s.st = stAt st tr q ∧ stAt st tr (q + 1) = s.after) ∧ stAt st tr tr.length = st' ∧ stAt st tr 0 = st
  | [], st, st', h => ⟨fun q s hs => by simp at hs, h, rfl⟩
  | s0 :: r, st, st', ⟨h1, h2⟩ => by
    obtain ⟨g1, g2, g3⟩ := Chain.at h2
    refine ⟨fun q s hs => ?_, by simpa [stAt] using g2, rfl⟩
    cases q with
    | zero => simp at hs; subst hs; exact ⟨h1, by simp [stAt, g3]⟩
    | succ q => simp only [stAt]; exact g1 q s (by simpa using hs)
end
end Go.Ev

/- Regions that draw their order: what the order of the table is worth. -/
namespace Go.Ev
variable [Env]

theorem maskOf_bits {L : List (Nat × Nat)} : ∀ {es : List Edge} {s : Nat}, maskOf L es = some s → ∀ j, s.testBit j = true → ∃ e ∈ es, Region.binds .any e = true ∧ ∃ m, Al.get L e.on = some m ∧ (j = e.on ∨ m.testBit j = true)
  | [], s, h, j, hj => by simp [maskOf] at h; subst h; simp at hj
  | e :: r, s, h, j, hj => by
    unfold maskOf at h
    cases hr : maskOf L r with
    | none => simp [hr] at h
    | some s0 =>
      simp only [hr] at h
      cases hb : Region.binds .any e with
      | false =>
        simp only [hb] at h; cases h
        obtain ⟨e', h1, h2⟩ := maskOf_bits hr j hj
        exact ⟨e', List.mem_cons_of_mem _ h1, h2⟩
      | true =>
        simp only [hb] at h
        cases hg : Al.get L e.on with
        | none => simp [hg] at h
        | some m =>
          simp only [hg] at h; cases h
          have hj' : ((s0 ||| 2 ^ e.on) ||| m).testBit j = true := hj
          rw [Nat.testBit_or, Nat.testBit_or, Bool.or_eq_true, Bool.or_eq_true] at hj'
          rcases hj' with (h1 | h1) | h1
          · obtain ⟨e', h3, h2⟩ := maskOf_bits hr j h1
            exact ⟨e', List.mem_cons_of_mem _ h3, h2⟩
          · rw [Nat.testBit_two_pow] at h1
            exact ⟨e, List.mem_cons_self, hb, m, hg, .inl (by have := of_decide_eq_true h1; exact this.symm)⟩
          · exact ⟨e, List.mem_cons_self, hb, m, hg, .inr h1⟩

theorem maskOf_edge {L : List (Nat × Nat)} : ∀ {es : List Edge} {s : Nat}, maskOf L es = some s → ∀ e ∈ es, Region.binds .any e = true → ∃ m, Al.get L e.on = some m
  | [], s, h, e, he, _ => by cases he
  | e0 :: r, s, h, e, he, hb => by
    unfold maskOf at h
    cases hr : maskOf L r with
    | none => simp [hr] at h
    | some s0 =>
      simp only [hr] at h
      cases he with
      | tail _ he => exact maskOf_edge hr e he hb
      | head =>
        simp only [hb] at h
        cases hg : Al.get L e0.on with
        | none => simp [hg] at h
        | some m => exact ⟨m, rfl⟩

theorem posOk_spec {all : List Oper} : ∀ (rest L0 : List (Nat × Nat)), posOk all L0 rest = true → ∀ (q : Nat) x, rest[q]? = some x →
    ∃ o L, all[x.1]? = some o ∧ maskOf L o.after.toList = some x.2 ∧ (∀ on m, Al.get L on = some m → Al.get L0 on = some m ∨ ∃ q', q' < q ∧ rest[q']? = some (on, m)) ∧ Al.get L x.1 = none ∧
      (∀ k m, Al.get L0 k = some m → ∃ m', Al.get L k = some m') ∧ ∀ q' y, q' < q → rest[q']? = some y → ∃ m', Al.get L y.1 = some m'
  | [], L0, _, q, x, hx => by simp at hx
  | (i, m) :: r, L0, h, q, x, hx => by
    unfold posOk at h
    cases ho : all[i]? with
    | none => simp [ho] at h
    | some o =>
      simp only [ho] at h
      cases hg : Al.get L0 i with
      | some _ => simp [hg] at h
      | none =>
        simp only [hg] at h
        cases hm : maskOf L0 o.after.toList with
        | none => simp [hm] at h
        | some s =>
          simp only [hm, Bool.and_eq_true] at h
          have hs := Nat.eq_of_beq_eq_true h.1
          subst hs
          cases q with
          | zero =>
            simp at hx; subst hx
            exact ⟨o, L0, ho, hm, fun on m h => .inl h, hg, fun k m h => ⟨m, h⟩, fun q' y h => absurd h (Nat.not_lt_zero _)⟩
          | succ q =>
            obtain ⟨o', L, h1, h2, h3, h4, h5, h6⟩ := posOk_spec r ((i, s) :: L0) h.2 q x (by simpa using hx)
            refine ⟨o', L, h1, h2, ?_, h4, ?_, ?_⟩
            · intro on m hgm
              rcases h3 on m hgm with h | ⟨q', hq, hr⟩
              · rw [Al.get_cons] at h
                split at h
                · rename_i hi; subst hi; cases h; exact .inr ⟨0, by omega, rfl⟩
                · exact .inl h
              · exact .inr ⟨q' + 1, by omega, by simpa using hr⟩
            · intro k m hk
              by_cases hik : i = k
              · subst hik; rw [hg] at hk; cases hk
              · exact h5 k m (by rw [Al.get_cons, if_neg hik]; exact hk)
            · intro q' y hq hy
              cases q' with
              | zero => simp at hy; subst hy; exact h5 i s (by rw [Al.get_cons, if_pos rfl])
              | succ q' => exact h6 q' y (by omega) (by simpa using hy)

theorem covers_spec {L : List (Nat × Nat)} : ∀ {n : Nat}, covers L n = true → ∀ i, i < n → ∃ m, Al.get L i = some m
  | 0, _, i, h => absurd h (Nat.not_lt_zero _)
  | n + 1, h, i, hi => by
    unfold covers at h
    cases hg : Al.get L n with
    | none => simp [hg] at h
    | some m =>
      simp only [hg] at h
      by_cases hin : i = n
      · subst hin; exact ⟨m, hg⟩
      · exact covers_spec h i (by omega)

theorem Al.get_mem {α : Type} : ∀ {l : Al α} {n : Nat} {x : α}, Al.get l n = some x → ∃ q : Nat, l[q]? = some (n, x)
  | [], _, _, h => by simp [Al.get] at h
  | (k, y) :: r, n, x, h => by
    rw [Al.get_cons] at h
    split at h
    · rename_i hk; subst hk; cases h; exact ⟨0, rfl⟩
    · obtain ⟨q, hq⟩ := Al.get_mem h
      exact ⟨q + 1, by simpa using hq⟩

/-- what the table's order is worth, for the steps -/
structure Sched (ops : Array Oper) (tr : List Stp) : Prop where
  op : ∀ (q : Nat) s, tr[q]? = some s → ops[s.i]? = some s.o
  edge : ∀ (q : Nat) s, tr[q]? = some s → ∀ e ∈ s.o.after, Region.binds .any e = true → ∃ q' s', q' < q ∧ tr[q']? = some s' ∧ s'.i = e.on
  bits : ∀ (q : Nat) s, tr[q]? = some s → ∀ j, s.m.testBit j = true → ∃ e ∈ s.o.after, Region.binds .any e = true ∧ ∃ q' s', q' < q ∧ tr[q']? = some s' ∧ s'.i = e.on ∧ (j = e.on ∨ s'.m.testBit j = true)
  inj : ∀ (q q' : Nat) s s', tr[q]? = some s → tr[q']? = some s' → s.i = s'.i → q = q'
  all : ∀ i, i < ops.size → ∃ (q : Nat) (s : Stp), tr[q]? = some s ∧ s.i = i
  slots : ∀ (q q' : Nat) s s' t, tr[q]? = some s → tr[q']? = some s' → t ∈ namesOf ops.toList s.o → s'.o.dst = some t → q = q' ∨ s.m.testBit s'.i = true ∨ s'.m.testBit s.i = true

theorem sched_of {ops : Array Oper} {tr : List Stp} {L : List (Nat × Nat)} (hL : tr.map (fun s => (s.i, s.m)) = L) (hok : schedOk ops.toList L = true) (hop : ∀ s ∈ tr, ops.toList[s.i]? = some s.o) : Sched ops tr := by
  unfold schedOk at hok
  simp only [Bool.and_eq_true] at hok
  obtain ⟨⟨h1, h2⟩, h3⟩ := hok
  have hget : ∀ (q : Nat) s, tr[q]? = some s → L[q]? = some (s.i, s.m) := fun q s h => by rw [← hL]; simp [h]
  have hget' : ∀ (q : Nat) x, L[q]? = some x → ∃ s, tr[q]? = some s ∧ x = (s.i, s.m) := fun q x h => by
    rw [← hL] at h
    simp only [List.getElem?_map, Option.map_eq_some_iff] at h
    obtain ⟨s, hs, rfl⟩ := h
    exact ⟨s, hs, rfl⟩
  have hops : ∀ (q : Nat) s, tr[q]? = some s → ops[s.i]? = some s.o := fun q s h => by
    have := hop s (List.mem_of_getElem? h)
    simpa using this
  have spec : ∀ (q : Nat) s, tr[q]? = some s → ∃ L', maskOf L' s.o.after.toList = some s.m ∧ (∀ on m, Al.get L' on = some m → ∃ q' s', q' < q ∧ tr[q']? = some s' ∧ s'.i = on ∧ s'.m = m) ∧ Al.get L' s.i = none ∧
      ∀ q' s', q' < q → tr[q']? = some s' → ∃ m', Al.get L' s'.i = some m' := by
    intro q s hs
    obtain ⟨o, L', g1, g2, g3, g4, _, g6⟩ := posOk_spec L [] h2 q _ (hget q s hs)
    have : o = s.o := by
      have := hop s (List.mem_of_getElem? hs)
      rw [this] at g1; cases g1; rfl
    subst this
    refine ⟨L', g2, ?_, g4, fun q' s' hq hs' => g6 q' _ hq (hget q' s' hs')⟩
    intro on m hg
    rcases g3 on m hg with h | ⟨q', hq, hr⟩
    · simp [Al.get] at h
    · obtain ⟨s', hs', he⟩ := hget' q' _ hr
      cases he
      exact ⟨q', s', hq, hs', rfl, rfl⟩
  have hinj : ∀ (q q' : Nat) s s', tr[q]? = some s → tr[q']? = some s' → s.i = s'.i → q = q' := by
    intro q q' s s' hs hs' hi
    rcases Nat.lt_trichotomy q q' with h | h | h
    · obtain ⟨L', _, _, g3, g4⟩ := spec q' s' hs'
      obtain ⟨m', hm⟩ := g4 q s h hs
      rw [hi, g3] at hm; cases hm
    · exact h
    · obtain ⟨L', _, _, g3, g4⟩ := spec q s hs
      obtain ⟨m', hm⟩ := g4 q' s' h hs'
      rw [← hi, g3] at hm; cases hm
  refine ⟨hops, ?_, ?_, hinj, ?_, ?_⟩
  · intro q s hs e he hb
    obtain ⟨L', g1, g2, _, _⟩ := spec q s hs
    obtain ⟨m, hm⟩ := maskOf_edge g1 e (by simpa using he) hb
    obtain ⟨q', s', k1, k2, k3, _⟩ := g2 _ _ hm
    exact ⟨q', s', k1, k2, k3⟩
  · intro q s hs j hj
    obtain ⟨L', g1, g2, _, _⟩ := spec q s hs
    obtain ⟨e, he, hb, m, hm, hjm⟩ := maskOf_bits g1 j hj
    obtain ⟨q', s', k1, k2, k3, k4⟩ := g2 _ _ hm
    subst k4
    exact ⟨e, by simpa using he, hb, q', s', k1, k2, k3, hjm⟩
  · intro i hi
    obtain ⟨m, hm⟩ := covers_spec h1 i (by simpa using hi)
    obtain ⟨q, hq⟩ := Al.get_mem hm
    obtain ⟨s, hs, he⟩ := hget' q _ hq
    cases he
    exact ⟨q, s, hs, rfl⟩
  · intro q q' s s' t hs hs' ht hd
    unfold slotsOk at h3
    rw [List.all_eq_true] at h3
    have g := h3 _ (List.mem_of_getElem? (hget q s hs))
    rw [hop s (List.mem_of_getElem? hs)] at g
    simp only [List.all_eq_true] at g
    have g := g t ht _ (List.mem_of_getElem? (hget q' s' hs'))
    simp only [dstAt, hop s' (List.mem_of_getElem? hs'), hd, Nat.beq_refl, Bool.not_true, Bool.false_or, Bool.or_eq_true] at g
    rcases g with (g | g) | g
    · exact .inl (hinj q q' s s' hs hs' (Nat.eq_of_beq_eq_true g))
    · exact .inr (.inl g)
    · exact .inr (.inr g)
end Go.Ev
