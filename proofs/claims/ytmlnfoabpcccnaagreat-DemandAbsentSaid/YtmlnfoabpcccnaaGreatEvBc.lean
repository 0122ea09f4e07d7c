/- Regions that draw their order: the whole region. -/
import Derived.Test.YtmlnfoabpcccnaaGreatEvBb
import Derived.Test.YtmlnfoabpcccnaaGreatEvAj
set_option linter.all false
/- Regions that draw their order: the whole region. -/
namespace Go.Ev
variable [Env]
section
variable {P : Program} {T : Types} {R : Type} {call : CallK R} {nt : Nat} {ops : Array Oper} {st0 st' : St} {tr : List Stp}
variable {w0 : World} {F0 : Fz} {M0 : Mp} {df : List Deferred}

def listedD (listed : Array Bool) : Nat → Prop := fun j => listed.getD j false = true

theorem countP_less {α : Type} {p p' : α → Bool} : ∀ {l : List α}, (∀ x, p' x = true → p x = true) → ∀ x ∈ l, p x = true → p' x = false → l.countP p' < l.countP p
  | [], _, x, h, _, _ => by cases h
  | y :: l, hle, x, h, h1, h2 => by
    have mono : l.countP p' ≤ l.countP p := List.countP_mono_left fun x _ h => hle x h
    simp only [List.countP_cons]
    cases h with
    | head => simp only [h1, h2]; simp; omega
    | tail _ h =>
      have := countP_less hle x h h1 h2
      cases hp' : p' y with
      | false => simp; split <;> omega
      | true => simp [hle y hp']; omega

def left (n : Nat) (listed : Array Bool) : Nat := (List.range n).countP fun j => !listed.getD j false

theorem mem_ready {listed : Array Bool} (hsz : listed.size = ops.size) {i : Nat} (h : i ∈ Region.ready .any ops listed) : i < ops.size ∧ ¬ listedD listed i ∧ ∃ o, ops[i]? = some o ∧ ∀ e ∈ o.after, Region.binds .any e = true → listedD listed e.on := by
  unfold Region.ready at h
  rw [List.mem_filter] at h
  obtain ⟨h1, h2⟩ := h
  have h1 := List.mem_range.1 h1
  simp only [Bool.and_eq_true] at h2
  obtain ⟨h2, h3⟩ := h2
  refine ⟨h1, ?_, ?_⟩
  · unfold listedD
    have hlt : i < listed.size := by omega
    simp [hlt] at h2 ⊢
    exact h2
  · cases ho : ops[i]? with
    | none => simp [ho] at h3
    | some o =>
      simp only [ho, Option.map_some, Option.getD_some] at h3
      refine ⟨o, rfl, fun e he hb => ?_⟩
      rw [Array.all_eq_true_iff_forall_mem] at h3
      have := h3 e he
      simp only [hb, Bool.not_true, Bool.false_or] at this
      exact this

theorem ready_of {listed : Array Bool} (hsz : listed.size = ops.size) {i : Nat} {o : Oper} (hi : ops[i]? = some o) (hn : ¬ listedD listed i) (he : ∀ e ∈ o.after, Region.binds .any e = true → listedD listed e.on) : i ∈ Region.ready .any ops listed := by
  have hlt : i < ops.size := (Array.getElem?_eq_some_iff.1 hi).1
  unfold Region.ready
  rw [List.mem_filter]
  refine ⟨List.mem_range.2 hlt, ?_⟩
  simp only [Bool.and_eq_true]
  refine ⟨?_, ?_⟩
  · unfold listedD at hn
    have hlt' : i < listed.size := by omega
    simp [hlt'] at hn ⊢
    exact hn
  · simp only [hi, Option.map_some, Option.getD_some]
    rw [Array.all_eq_true_iff_forall_mem]
    intro e hm
    cases hb : Region.binds .any e with
    | false => rfl
    | true => exact he e hm hb

theorem draw_go (r : R) (hT : TOk P T) (hc : SoundCall P call) (c : Cx T R call nt ops st0 st' tr) (hs0 : HS st0.hp w0 F0 M0) {Q : Exit → Act → World → Prop}
    (hq : ∀ w' F' M' a', TS st'.tmps a' w' F' M' → HS st'.hp w' F' M' → Ext w0 w' F0 F' M0 M' → a'.tmps.size = nt → a'.defers = df → Q .normal a' w') :
    ∀ (fuel : Nat) (listed : Array Bool) (a : Act) (w : World) (F : Fz) (M : Mp) (d : Nat), listed.size = ops.size → left ops.size listed ≤ fuel → DI st0 tr nt (listedD listed) w0 F0 M0 df a w F M d → wpAny P .any ops Q fuel listed a w := by
  have fin : ∀ {listed : Array Bool} {a w F M d}, listed.size = ops.size → Region.ready .any ops listed = [] → DI st0 tr nt (listedD listed) w0 F0 M0 df a w F M d → Q .normal a w := by
    intro listed a w F M d hsz hr I
    have hall : ∀ (q : Nat) s, tr[q]? = some s → listedD listed s.i := by
      intro q
      induction q using Nat.strongRecOn with
      | _ q ih =>
        intro s hs
        rcases Classical.em (listedD listed s.i) with h | h
        · exact h
        · have : s.i ∈ Region.ready .any ops listed := ready_of hsz (c.sch.op q s hs) h fun e he hb => by
            obtain ⟨q', s', k1, k2, k3⟩ := c.sch.edge q s hs e he hb
            rw [← k3]; exact ih q' k1 s' k2
          rw [hr] at this; cases this
    obtain ⟨h1, h2, h3⟩ := I.done r c hall
    refine hq w F (cutM M st'.hp.next) a h1 h2 ⟨I.ext.os, I.ext.tape, I.ext.output, I.ext.size, I.ext.keep, I.ext.cell, fun i p h => ?_, I.ext.mF, fun i p h => I.ext.newM i p (cutM_some h).1, I.ext.newF⟩ I.size I.defs
    have := (hs0.lt i p h).1
    rw [cutM_lt (by omega)]; exact I.ext.mM i p h
  intro fuel
  induction fuel with
  | zero =>
    intro listed a w F M d hsz hl I
    have hr : Region.ready .any ops listed = [] := by
      cases h : Region.ready .any ops listed with
      | nil => rfl
      | cons i l =>
        exfalso
        obtain ⟨h1, h2, _⟩ := mem_ready hsz (i := i) (by rw [h]; exact List.mem_cons_self)
        have hz : left ops.size listed = 0 := by omega
        unfold left at hz
        rw [List.countP_eq_zero] at hz
        have := hz i (List.mem_range.2 h1)
        unfold listedD at h2
        simp at this h2
        rw [this] at h2; cases h2
    exact ⟨hr, fin hsz hr I⟩
  | succ fuel ih =>
    intro listed a w F M d hsz hl I
    refine ⟨fun hr => fin hsz hr I, fun i hi => ?_⟩
    obtain ⟨h1, h2, o, h3, h4⟩ := mem_ready hsz hi
    obtain ⟨q, s, k1, rfl⟩ := c.sch.all i h1
    have ho : o = s.o := by have := c.sch.op q s k1; rw [h3] at this; cases this; rfl
    subst ho
    have hr : ∀ j, s.m.testBit j = true → listedD listed j := by
      intro j hj
      obtain ⟨e, he, hb, q', s', m1, m2, m3, m4⟩ := c.sch.bits q s k1 j hj
      have hd := h4 e he hb
      rcases m4 with m4 | m4
      · rw [m4]; exact hd
      · exact I.cl q' s' m2 (by rw [m3]; exact hd) j m4
    refine I.go r hT hc c k1 h2 hr fun a' w' F' M' d' I' => ?_
    have hD : (fun j => listedD listed j ∨ j = s.i) = listedD (listed.setIfInBounds s.i true) := by
      funext j
      apply propext
      unfold listedD
      by_cases hj : s.i = j
      · subst hj
        have : s.i < listed.size := by omega
        simp [this]
      · have hj' : ¬ (j = s.i) := fun h => hj h.symm
        simp [Array.getElem?_setIfInBounds_ne hj, hj']
    rw [hD] at I'
    refine ih _ a' w' F' M' d' (by simpa using hsz) ?_ I'
    have : left ops.size (listed.setIfInBounds s.i true) < left ops.size listed := by
      unfold left
      have hrev : ∀ j, listedD (listed.setIfInBounds s.i true) j ↔ listedD listed j ∨ j = s.i := fun j => by rw [← hD]
      unfold listedD at hrev h2
      refine countP_less (fun j hj => ?_) s.i (List.mem_range.2 h1) ?_ ?_
      · cases hb : listed.getD j false with
        | false => rfl
        | true =>
          have := (hrev j).2 (.inl hb)
          rw [this] at hj; cases hj
      · cases hb : listed.getD s.i false with
        | false => rfl
        | true => exact (h2 hb).elim
      · rw [(hrev s.i).2 (.inr rfl)]; rfl
    omega

theorem drawSound (r : R) (hT : TOk P T) (hm : P.follows .mixedOrders = true) : DrawSound P T R := by
  intro call hu hc nt id ops L st st' hok e a w F M Q ht hs hn hq
  obtain ⟨tr, h1, h2, h3, h4⟩ := trace_of r hu nt ops.toList L _ st e
  have c : Cx T R call nt ops st st' tr := ⟨hu, h3, h2, Pw.two h4, sched_of h1 hok fun s hs => (h3 s hs).1⟩
  let w1 : World := { w with drawn := w.drawn + 1 }
  have hw1 : w1.heap = w.heap := rfl
  have hx : Ext w w1 F F M M := Ext.heap hw1 rfl rfl rfl
  have hs1 : HS st.hp w1 F M := hs.heap hw1
  have ht1 : TS st.tmps a w1 F M := ht.ext hx
  have hno : ∀ j, ¬ listedD (Array.replicate ops.size false) j := by
    intro j h
    unfold listedD at h
    simp only [Array.getD_eq_getD_getElem?] at h
    cases hg : (Array.replicate ops.size false)[j]? with
    | none => rw [hg] at h; cases h
    | some b =>
      rw [hg] at h
      have := Array.mem_of_getElem? hg
      simp at this
      rw [this.2] at h; cases h
  have hcut : cutM M st.hp.next = M := by
    funext i
    unfold cutM
    split
    · rfl
    · cases hmi : M i with
      | none => rfl
      | some p => have := (hs.lt i p hmi).1; omega
  have hp0 : hpAt st tr 0 = st.hp := by unfold hpAt; rw [c.chain.at.2.2]
  refine wp_region_any hm (draw_go r hT hc c (w0 := w1) (F0 := F) (M0 := M) (df := a.defers) hs1 ?_ ops.size _ a w1 F M 0 (by simp) ?_ ?_)
  · intro w' F' M' a' k1 k2 k3 k4 k5
    exact hq w' F' M' a' k1 k2 (hx.trans k3) k4 k5
  · unfold left
    have := List.countP_le_length (p := fun j => !(Array.replicate ops.size false).getD j false) (l := List.range ops.size)
    simpa using this
  · refine ⟨hn, rfl, Ext.refl w1 F M, Nat.zero_le _, .inl rfl, fun id p h => .inl (hs1.lt id p h).1, fun id p h => (hs1.lt id p h).2, fun t q s _ h => (hno _ h).elim, ?_, ?_, ?_, fun q s _ _ h => absurd h (Nat.not_lt_zero _), fun q s blk _ _ _ h => (hno _ h).elim, fun q s _ h => (hno _ h).elim⟩
    · intro t _ pv hp
      obtain ⟨g1, g2⟩ := ht1 t pv hp
      exact ⟨by rw [← hn]; exact g1, by rw [hcut]; exact g2⟩
    · rw [hp0, hcut]; exact hs1
    · intro q s _ _
      exact ⟨fun h => (hno _ h).elim, fun h => absurd h (Nat.not_lt_zero _)⟩
end
end Go.Ev

/- A heap told otherwise: the same blocks, other words for their cells. -/
namespace Go.Ev
/-- one block told otherwise -/
def Alike (E E' : Env) (w : World) (F : Fz) (M : Mp) (b b' : Blk) : Prop :=
  b'.cells.length = b.cells.length ∧ b'.sz = b.sz ∧ b'.loose = b.loose ∧ b'.frz = b.frz ∧ b'.ty = b.ty ∧
    ∀ (o : Nat) x, b'.cells[o]? = some x → ∃ y, b.cells[o]? = some y ∧ (cellOk y = true → cellOk x = true) ∧ ∀ v, @VR E w F M y v → @VR E' w F M x v

theorem HS.swap {E E' : Env} {h h' : Hp} {w : World} {F : Fz} {M : Mp} (hs : @HS E h w F M) (hn : h'.next = h.next) (hm : h'.maps = [])
    (hg : ∀ i b', h'.get i = some b' → ∃ b, h.get i = some b ∧ Alike E E' w F M b b') : @HS E' h' w F M := by
  refine @HS.mk E' _ _ _ _ (fun i b' q h1 hM => ?_) (fun i j bi bj p q hi hj hp hq e => ?_) (fun i q h1 => by rw [hn]; exact @HS.lt E _ _ _ _ hs i q h1) (fun i b' h1 => ?_) (@HS.fw E _ _ _ _ hs) (by rw [hm]; exact @HM.nil E' _ _ _ _)
  · obtain ⟨b, h2, a1, a2, a3, a4, a5, a6⟩ := hg i b' h1
    have br := @HS.br E _ _ _ _ hs i b q h2 hM
    obtain ⟨c, e, k1, k2, k3, k4⟩ := @BR.blk E _ _ _ _ _ br
    refine @BR.mk E' _ _ _ _ _ ((@BR.n E _ _ _ _ _ br).trans a1.symm) ((@BR.sz E _ _ _ _ _ br).trans a2.symm) ((@BR.loose E _ _ _ _ _ br).trans a3.symm) ⟨c, e, k1, k2, k3, fun o x hx => ?_⟩
      (fun o ho => @BR.nf E _ _ _ _ _ br o (by rw [← a4]; exact ho)) ⟨fun hl => (@BR.ty E _ _ _ _ _ br).1 (a3.symm.trans hl), by rw [a5]; exact (@BR.ty E _ _ _ _ _ br).2⟩
    obtain ⟨y, g1, g2, g3⟩ := a6 o x hx
    obtain ⟨g4, v, g5, g6⟩ := k4 o y g1
    exact ⟨g2 g4, v, g5, g3 v g6⟩
  · obtain ⟨b1, g1, _⟩ := hg i bi hi
    obtain ⟨b2, g2, _⟩ := hg j bj hj
    exact @HS.inj E _ _ _ _ hs i j b1 b2 p q g1 g2 hp hq e
  · obtain ⟨b1, g1, _⟩ := hg i b' h1
    rw [hn]
    exact @HS.fresh E _ _ _ _ hs i b1 g1

/-- does a second block stand in the first cell's place? -/
def twoS : List PV → Bool
  | .tup (.mp _ :: _) :: _ => true
  | _ => false

theorem twoS_true {cs : List PV} (h : twoS cs = true) : ∃ t1 cs1 r, cs = .tup (.mp t1 :: cs1) :: r := by
  unfold twoS at h
  split at h
  · exact ⟨_, _, _, rfl⟩
  · cases h
theorem startS_false {ty : Nat} {cs : List PV} (h : twoS cs = false) : startS ty cs = ⟨[(0, ⟨cs, cs.length, false, 0, ty⟩)], 1, []⟩ := by
  unfold startS
  split
  · simp [twoS] at h
  · rfl
theorem hp1_get [Env] {cs : List PV} {n ty i : Nat} {b' : Blk} (h : Hp.get ⟨[(0, ⟨cs, n, false, 0, ty⟩)], 1, []⟩ i = some b') : i = 0 ∧ b' = ⟨cs, n, false, 0, ty⟩ := by
  unfold Hp.get at h
  rw [Al.get_cons] at h
  split at h
  · rename_i e; cases h; exact ⟨e.symm, rfl⟩
  · cases h

/-- cells told otherwise -/
def AlikeL (E E' : Env) (w : World) (F : Fz) (M : Mp) (cs ds : List PV) : Prop :=
  ds.length = cs.length ∧ ∀ (o : Nat) x, ds[o]? = some x → ∃ y, cs[o]? = some y ∧ (cellOk y = true → cellOk x = true) ∧ ∀ v, @VR E w F M y v → @VR E' w F M x v

theorem HS.swap1 {E E' : Env} {cs ds : List PV} {ty : Nat} {w : World} {F : Fz} {M : Mp} (h1 : twoS cs = false) (h2 : twoS ds = false) (ha : AlikeL E E' w F M cs ds) (hs : @HS E (startS ty cs) w F M) : @HS E' (startS ty ds) w F M := by
  rw [startS_false h1] at hs
  rw [startS_false h2]
  refine HS.swap hs rfl rfl fun i b' h => ?_
  letI := E
  obtain ⟨rfl, rfl⟩ := hp1_get h
  exact ⟨_, rfl, ha.1, ha.1, rfl, rfl, rfl, ha.2⟩

theorem HS.swap2 {E E' : Env} {cs1 ds1 r r' : List PV} {ty t1 : Nat} {w : World} {F : Fz} {M : Mp} (ha : AlikeL E E' w F M r r') (hb : AlikeL E E' w F M cs1 ds1) (hs : @HS E (hp2 ty t1 cs1 r) w F M) : @HS E' (hp2 ty t1 ds1 r') w F M := by
  refine HS.swap hs rfl rfl fun i b' h => ?_
  rcases @hp2_get E _ _ _ _ _ _ h with ⟨rfl, rfl⟩ | ⟨rfl, rfl⟩
  · refine ⟨_, rfl, by simp [ha.1], by simp [ha.1], rfl, rfl, rfl, fun o x hx => ?_⟩
    cases o with
    | zero =>
      simp at hx
      subst hx
      refine ⟨_, rfl, fun h => h, fun v hv => ?_⟩
      rcases hv with hv
      generalize hq : PV.ptr 1 0 = q at hv
      cases hv <;> cases hq
      rename_i p hp
      exact @VR.ptr E' _ _ _ _ _ _ hp
    | succ o => exact ha.2 o x (by simpa using hx)
  · exact ⟨_, rfl, hb.1, hb.1, rfl, rfl, rfl, hb.2⟩
end Go.Ev

/- Calls whose answers are known: a book of them, and how a run that asks the book adds a page. -/
namespace Go.Ev
variable [Env]
section
variable {P : Program} {T : Types}

def peqR : List PV → List PV → Bool
  | [], [] => true
  | a :: l, b :: m => match peqR l m with
    | true => peq 1000 a b
    | false => false
  | _, _ => false

abbrev Page := List (List PV × PV)
abbrev Book := List (Nat × Page)
def find (ds : List PV) : Page → Option PV
  | [] => none
  | (es, q) :: r => match peqR ds es with
    | true => some q
    | false => find ds r
def ask : Book → Orc
  | [] => fun _ _ => none
  | (g, pg) :: r => fun f ds => match Nat.beq g f with
    | true => find ds pg
    | false => ask r f ds

def PageOk (P : Program) (g : Nat) : Page → Prop
  | [] => True
  | (es, q) :: r => KnownX P g es q ∧ PageOk P g r
def BookOk (P : Program) : Book → Prop
  | [] => True
  | (g, pg) :: r => PageOk P g pg ∧ BookOk P r

theorem peqR_VR {w : World} {F : Fz} {M : Mp} : ∀ {ds es : List PV} {ys : List Value}, peqR ds es = true → VRs w F M ds ys → VRs w F M es ys
  | [], [], _, _, h => h
  | [], _ :: _, _, h, _ => by simp [peqR] at h
  | _ :: _, [], _, h, _ => by simp [peqR] at h
  | a :: l, b :: m, ys, h, hv => by
    unfold peqR at h
    split at h
    · rename_i hl
      cases ys with
      | nil => exact absurd hv.1 (by simp)
      | cons y ys =>
        have h1 : VRs w F M l ys := ⟨by simpa using hv.1, fun i c z hc hz => hv.2 (i + 1) c z (by simpa using hc) (by simpa using hz)⟩
        have h2 := peqR_VR hl h1
        have h3 := peq_VR 1000 h (hv.2 0 a y rfl rfl)
        refine ⟨by simpa using h2.1, fun i c z hc hz => ?_⟩
        cases i with
        | zero => simp at hc hz; subst hc; subst hz; exact h3
        | succ i => exact h2.2 i c z (by simpa using hc) (by simpa using hz)
    · cases h

theorem peqR_cons {x y : PV} {l m : List PV} (h : peqR (x :: l) (y :: m) = true) : peq 1000 x y = true ∧ peqR l m = true := by
  unfold peqR at h
  split at h
  · rename_i g; exact ⟨h, g⟩
  · cases h
theorem peq_top {n : Nat} {x : PV} (h : peq n x .top = true) : x = .top := by
  cases n with
  | zero => simp [peq] at h
  | succ n => cases x <;> simp [peq] at h <;> rfl
theorem peq_top' {n : Nat} {x : PV} (h : peq n .top x = true) : x = .top := by
  cases n with
  | zero => simp [peq] at h
  | succ n => cases x <;> simp [peq] at h <;> rfl
theorem peq_mp {n : Nat} {x : PV} {i : Nat} (h : peq n x (.mp i) = true) : x = .mp i := by
  cases n with
  | zero => simp [peq] at h
  | succ n => cases x <;> simp [peq] at h <;> rw [h]
theorem peq_mp' {n : Nat} {x : PV} {i : Nat} (h : peq n (.mp i) x = true) : x = .mp i := by
  cases n with
  | zero => simp [peq] at h
  | succ n => cases x <;> simp [peq] at h <;> rw [h]
theorem peq_tup {n : Nat} {x : PV} {cs : List PV} (h : peq n x (.tup cs) = true) : ∃ ds m, x = .tup ds ∧ peqL m ds cs = true := by
  cases n with
  | zero => simp [peq] at h
  | succ n => cases x <;> simp [peq] at h <;> exact ⟨_, n, rfl, h⟩
theorem peq_tup' {n : Nat} {x : PV} {cs : List PV} (h : peq n (.tup cs) x = true) : ∃ ds, x = .tup ds := by
  cases n with
  | zero => simp [peq] at h
  | succ n => cases x <;> simp [peq] at h <;> exact ⟨_, rfl⟩
theorem peqL_len : ∀ {n : Nat} {cs ds : List PV}, peqL n cs ds = true → cs.length = ds.length
  | 0, _, _, h => by simp [peqL] at h
  | n + 1, [], [], _ => rfl
  | n + 1, [], _ :: _, h => by simp [peqL] at h
  | n + 1, _ :: _, [], h => by simp [peqL] at h
  | n + 1, a :: cs, b :: ds, h => by
    simp only [peqL, Bool.and_eq_true] at h
    simp [peqL_len h.2]
theorem unKey_some {ds : List PV} {ty : Nat} {cs r : List PV} (h : unKey ds = some (ty, cs, r)) : ds = .top :: .mp ty :: .tup cs :: r := by
  unfold unKey at h
  split at h
  · cases h; rfl
  · cases h
theorem unKey_none {ds es : List PV} (h : peqR ds es = true) (he : unKey es = none) : unKey ds = none := by
  unfold unKey
  split
  · rename_i ty cs r
    exfalso
    rcases es with _ | ⟨a, es⟩
    · simp [peqR] at h
    obtain ⟨h1, h⟩ := peqR_cons h
    rcases es with _ | ⟨b, es⟩
    · simp [peqR] at h
    obtain ⟨h2, h⟩ := peqR_cons h
    rcases es with _ | ⟨c, es⟩
    · simp [peqR] at h
    obtain ⟨h3, h⟩ := peqR_cons h
    obtain rfl := peq_top' h1
    obtain rfl := peq_mp' h2
    obtain ⟨ds, rfl⟩ := peq_tup' h3
    cases he
  · rfl
theorem peqL_get : ∀ (m : Nat) {cs ds : List PV}, peqL m cs ds = true → ∀ (o : Nat) x, ds[o]? = some x → ∃ y m', cs[o]? = some y ∧ peq m' y x = true
  | 0, _, _, h, _, _, _ => by simp [peqL] at h
  | m + 1, [], [], _, o, x, hx => by simp at hx
  | m + 1, [], _ :: _, h, _, _, _ => by simp [peqL] at h
  | m + 1, _ :: _, [], h, _, _, _ => by simp [peqL] at h
  | m + 1, a :: cs, b :: ds, h, o, x, hx => by
    simp only [peqL, Bool.and_eq_true] at h
    cases o with
    | zero => simp at hx; subst hx; exact ⟨a, m, rfl, h.1⟩
    | succ o => exact peqL_get m h.2 o x (by simpa using hx)
theorem peqL_alike {E : Env} {w : World} {F : Fz} {M : Mp} {n : Nat} {cs ds : List PV} (h : peqL n cs ds = true) : AlikeL E E w F M cs ds :=
  ⟨(peqL_len h).symm, fun o x hx => by
    obtain ⟨y, m', hy, hp⟩ := peqL_get n h o x hx
    exact ⟨y, hy, fun g => (peq_cellOk m' hp).symm.trans g, fun v g => peq_VR m' hp g⟩⟩
theorem peqL_cons {n : Nat} {a b : PV} {cs ds : List PV} (h : peqL n (a :: cs) (b :: ds) = true) : ∃ m, peq m a b = true ∧ peqL m cs ds = true := by
  cases n with
  | zero => simp [peqL] at h
  | succ n => simp only [peqL, Bool.and_eq_true] at h; exact ⟨n, h.1, h.2⟩
/-- a told heap's cells, told otherwise -/
theorem HS.told {cs ds : List PV} {n : Nat} {ty : Nat} {w : World} {F : Fz} {M : Mp} (h : peqL n cs ds = true) (hs : HS (startS ty cs) w F M) : HS (startS ty ds) w F M := by
  cases h2 : twoS ds with
  | true =>
    obtain ⟨t1, ds1, r', rfl⟩ := twoS_true h2
    rcases cs with _ | ⟨c, r⟩
    · cases n <;> simp [peqL] at h
    obtain ⟨m, p1, p2⟩ := peqL_cons h
    obtain ⟨l, m1, rfl, p3⟩ := peq_tup p1
    rcases l with _ | ⟨x, cs1⟩
    · cases m1 <;> simp [peqL] at p3
    obtain ⟨m2, p4, p5⟩ := peqL_cons p3
    obtain rfl := peq_mp p4
    exact HS.swap2 (peqL_alike p2) (peqL_alike p5) hs
  | false =>
    cases h1 : twoS cs with
    | true =>
      exfalso
      obtain ⟨t1, cs1, r, rfl⟩ := twoS_true h1
      rcases ds with _ | ⟨d, r'⟩
      · cases n <;> simp [peqL] at h
      obtain ⟨m, p1, p2⟩ := peqL_cons h
      cases m with
      | zero => simp [peq] at p1
      | succ m =>
        obtain ⟨l, rfl⟩ := peq_tup' p1
        simp only [peq] at p1
        rcases l with _ | ⟨x, ds1⟩
        · cases m <;> simp [peqL] at p1
        obtain ⟨m2, p4, p5⟩ := peqL_cons p1
        obtain rfl := peq_mp' p4
        simp [twoS] at h2
    | false => exact HS.swap1 h1 h2 (peqL_alike h) hs

theorem find_ok {g : Nat} {ds : List PV} {q : PV} : ∀ {pg : Page}, PageOk P g pg → find ds pg = some q → KnownX P g ds q
  | [], _, h => by cases h
  | (es, q') :: r, hk, h => by
    unfold find at h
    split at h
    · rename_i hp
      cases h
      have h1 := hk.1
      unfold KnownX at h1 ⊢
      cases he : unKey es with
      | none =>
        rw [he] at h1
        rw [unKey_none hp he]
        exact ⟨h1.1, fun w F args hF hv => h1.2 w F args hF (peqR_VR hp hv)⟩
      | some t =>
        obtain ⟨ty, cs, r⟩ := t
        rw [he] at h1
        obtain ⟨q1, cs', rfl, g1, g2⟩ := h1
        obtain rfl := unKey_some he
        rcases ds with _ | ⟨a, ds⟩
        · simp [peqR] at hp
        obtain ⟨p1, hp1⟩ := peqR_cons hp
        rcases ds with _ | ⟨b, ds⟩
        · simp [peqR] at hp1
        obtain ⟨p2, hp2⟩ := peqR_cons hp1
        rcases ds with _ | ⟨c, ds⟩
        · simp [peqR] at hp2
        obtain ⟨p3, hp3⟩ := peqR_cons hp2
        obtain rfl := peq_top p1
        obtain rfl := peq_mp p2
        obtain ⟨cs2, m, rfl, p4⟩ := peq_tup p3
        refine ⟨q1, cs', rfl, g1, fun w F M args hs hv => ?_⟩
        have hv' : VRs w F M (.ptr 0 0 :: r) args.toList := by
          rcases hargs : args.toList with _ | ⟨y0, ys⟩
          · rw [hargs] at hv; exact absurd hv.1 (by simp)
          · rw [hargs] at hv
            have hvr : VRs w F M ds ys := ⟨by simpa using hv.1, fun i c z hc hz => hv.2 (i + 1) c z (by simpa using hc) (by simpa using hz)⟩
            have := peqR_VR hp3 hvr
            refine ⟨by simpa using this.1, fun i c y hc hy => ?_⟩
            cases i with
            | zero => simp at hc hy; subst hc; subst hy; exact hv.2 0 _ y0 rfl rfl
            | succ i => exact this.2 i c y (by simpa using hc) (by simpa using hy)
        exact g2 w F M args (HS.told p4 hs) hv'
    · exact find_ok hk.2 h

theorem orc_ask : ∀ {B : Book}, BookOk P B → OrcOk P (ask B)
  | [], _, f, ds, q, h => by cases h
  | (g, pg) :: r, hk, f, ds, q, h => by
    unfold ask at h
    split at h
    · rename_i hg
      have hg := Nat.eq_of_beq_eq_true hg
      subst hg
      exact find_ok hk.1 h
    · exact orc_ask hk.2 f ds q h

theorem PageOk.app {g : Nat} : ∀ {a b : Page}, PageOk P g a → PageOk P g b → PageOk P g (a ++ b)
  | [], _, _, h => h
  | _ :: _, _, h1, h2 => ⟨h1.1, h1.2.app h2⟩

/-- a function that is told of in a table's entry -/
def FIOk (P : Program) (f : Nat) (fi : FI) : Prop := P.funcs[f]? = some fi.fn ∧ (fi.fn.name == "runtime.NumGoroutine") = false ∧ (∀ c, fi.fn.body = some c → codeOk fi c = true) ∧ (fi.fn.body = none → Extern.findNext fi.fn = none ∧ (fi.frz = false → Extern.find fi.fn = some Extern.AbiNoEscape.same) ∧ (fi.frz = true → Extern.find fi.fn = some Extern.BytealgCompare.compare))

def fiOk (fi : FI) : Bool := match fi.fn.name == "runtime.NumGoroutine" with
  | true => false
  | false => match fi.fn.body with
    | none => false
    | some c => codeOk fi c

theorem FIOk.of {f : Nat} {fi : FI} (h : P.funcs[f]? = some fi.fn) (hc : fiOk fi = true) : FIOk P f fi := by
  unfold fiOk at hc
  split at hc
  · cases hc
  · rename_i hn
    refine ⟨h, hn, fun c hb => ?_, fun hb => ?_⟩
    · rw [hb] at hc
      exact hc
    · rw [hb] at hc
      cases hc

/-- abi.NoEscape -/
theorem FIOk.ext {f : Nat} {fi : FI} (h : P.funcs[f]? = some fi.fn) (hn : (fi.fn.name == "runtime.NumGoroutine") = false) (hb : fi.fn.body.isNone = true) (hz : fi.frz = false) (h1 : Extern.findNext fi.fn = none) (h2 : Extern.find fi.fn = some Extern.AbiNoEscape.same) : FIOk P f fi :=
  ⟨h, hn, fun c hc => (by rw [hc] at hb; cases hb), fun _ => ⟨h1, fun _ => h2, fun h => by rw [hz] at h; cases h⟩⟩
/-- bytealg's cmpstring -/
theorem FIOk.cmp {f : Nat} {fi : FI} (h : P.funcs[f]? = some fi.fn) (hn : (fi.fn.name == "runtime.NumGoroutine") = false) (hb : fi.fn.body.isNone = true) (hz : fi.frz = true) (h1 : Extern.findNext fi.fn = none) (h2 : Extern.find fi.fn = some Extern.BytealgCompare.compare) : FIOk P f fi :=
  ⟨h, hn, fun c hc => (by rw [hc] at hb; cases hb), fun _ => ⟨h1, fun h => (by rw [hz] at h; cases h), fun _ => h2⟩⟩

/-- what stands in a tree, at its numbers -/
def Tr.All {α : Type} (Q : Nat → α → Prop) : (Nat → Nat) → Tr α → Prop
  | _, .lf => True
  | g, .nd l v r => (match v with | none => True | some x => Q (g 0) x) ∧ Tr.All Q (fun m => g (2 * m + 1)) l ∧ Tr.All Q (fun m => g (2 * m + 2)) r

theorem Tr.All.get {α : Type} {Q : Nat → α → Prop} : ∀ {t : Tr α} {g : Nat → Nat} {n : Nat} {x : α}, t.All Q g → t.get n = some x → Q (g n) x
  | .lf, _, _, _, _, h => by cases h
  | .nd l v r, g, n, x, ha, h => by
    cases n with
    | zero =>
      have h : v = some x := h
      subst h
      exact ha.1
    | succ m =>
      unfold Tr.get at h
      simp only [] at h
      split at h
      · rename_i hm
        have hm := Nat.eq_of_beq_eq_true hm
        have := Tr.All.get ha.2.1 h
        rwa [show 2 * (m / 2) + 1 = m + 1 by omega] at this
      · rename_i hm
        have hm : m % 2 ≠ 0 := fun e => by rw [e] at hm; exact absurd hm (by decide)
        have := Tr.All.get ha.2.2 h
        rwa [show 2 * (m / 2) + 2 = m + 1 by omega] at this

def Tr.allB {α : Type} (q : α → Bool) : Tr α → Bool
  | .lf => true
  | .nd l v r => (match v with | none => true | some x => q x) && (Tr.allB q l && Tr.allB q r)

theorem Tr.allB_get {α : Type} {q : α → Bool} : ∀ {t : Tr α} {n : Nat} {x : α}, t.allB q = true → t.get n = some x → q x = true
  | .lf, _, _, _, h => by cases h
  | .nd l v r, n, x, ha, h => by
    simp only [Tr.allB, Bool.and_eq_true] at ha
    cases n with
    | zero =>
      have h : v = some x := h
      subst h
      exact ha.1
    | succ m =>
      unfold Tr.get at h
      simp only [] at h
      split at h
      · exact Tr.allB_get ha.2.1 h
      · exact Tr.allB_get ha.2.2 h

theorem askNo : AskOk P noAsk where
  bin := fun _ _ _ _ _ e => by cases e
  len := fun _ _ _ e => by cases e
  index := fun _ _ _ _ e => by cases e
  addr := fun _ _ _ _ e => by cases e
  slice := fun _ _ _ _ _ e => by cases e
  conv := fun _ _ _ _ e => by cases e
theorem TOk.of {T : Tr TyI} (h : T.All (fun t i => mkTy P t = some i ∧ zeroOk i.zero = true) id) (hf : T.allB (fun i => !Nat.beq i.kind 3 || i.fields.all fun x => (T.get x.2).isSome) = true) : TOk P ⟨T, noAsk⟩ :=
  ⟨fun _ _ e => h.get e, fun t i e hk x hx => by
    have := Tr.allB_get hf e
    simp only [hk, Nat.beq_refl, Bool.not_true, Bool.false_or, List.all_eq_true] at this
    exact Option.isSome_iff_exists.1 (this x hx), askNo⟩

theorem TOk.asked {T : Types} (h : TOk P T) {A : AskOp → List PV → Option PV} (hA : AskOk P A) : TOk P ⟨T.tr, A⟩ := ⟨h.ty, h.fields, hA⟩

theorem FTOk.of {FT : Fns} (h : FT.All (FIOk P) id) : FTOk P FT := fun _ _ hf => h.get hf

/-- a run that asks the book and comes to q -/
def comes (T : Types) (FT : Fns) (B : Book) (n : Nat) (fi : FI) (ds : List PV) (q : PV) : Bool :=
  match callD (R := PV) T fi (run T FT (ask B) n) (fun p _ => some p) (some (ds, ⟨[], 0, []⟩)) with
  | some p => peq 1000 p q
  | none => false

theorem known_of (hT : TOk P T) (hm : P.follows .mixedOrders = true) {FT : Fns} (hF : FTOk P FT) {B : Book} (hB : BookOk P B) {f : Nat} {fi : FI} (hf : FIOk P f fi) {n : Nat} {ds : List PV} {q : PV}
    (h : comes T FT B n fi ds q = true) : Known P f ds q := by
  have hO := orc_ask hB
  have hr := run_sound (R := PV) (.un : PV) hT (drawSound (R := PV) .un hT hm) hF hO n
  have hu := run_uni (T := T) (R := PV) FT (ask B) n
  unfold comes at h
  split at h
  · rename_i p hp
    unfold callD at hp
    simp only [] at hp
    rcases bodyF_uni (T := T) hu fi ds ⟨[], 0, []⟩ with g | ⟨x, h', g⟩
    · have g' : ∀ k, bodyF T fi (run T FT (ask B) n) ds ⟨[], 0, []⟩ k = none := g
      rw [g'] at hp; cases hp
    · have g' : ∀ k, bodyF T fi (run T FT (ask B) n) ds ⟨[], 0, []⟩ k = k x h' := g
      rw [g'] at hp
      unfold dataK at hp
      cases hq : freeze deepN h' x with
      | none => simp [hq] at hp
      | some qh =>
        simp only [hq] at hp
        cases hp
        obtain ⟨h1, h2⟩ := bodyF_sound' (.un : PV) hT hu hr ⟨hf.1, hf.2.1, hf.2.2.1⟩ g'
        refine ⟨h1, fun w F args hF1 hv => ?_⟩
        refine Calls.mono (h2 w F noMap args (HS.empty 0 hF1) hv) ?_
        rintro e w' ⟨v, F', M', rfl, k1, k2, k3⟩
        obtain ⟨F2, m1, m2, m3⟩ := freeze_sound deepN h' x qh.1 qh.2 hq F' v k2 k1
        have hx : Ext w w' F F2 noMap M' := k3.trans m2
        have hx' : Ext w w' F F2 noMap noMap := ⟨hx.os, hx.tape, hx.output, hx.size, hx.keep, hx.cell, fun _ _ h => h, hx.mF, fun _ _ h => .inl h, hx.newF⟩
        exact ⟨v, F2, rfl, peq_VR 1000 h m3, m1.fw, hx'⟩
  · cases h

/-- the blocks told of, as they stand behind a run -/
def viewS (two : Bool) (h : Hp) : Option (Nat × List PV) := match h.get 0 with
  | none => none
  | some b => match two with
    | false => match stOk b with
      | true => some (b.ty, b.cells)
      | false => none
    | true => match headPtr b.cells with
      | none => none
      | some (j, r) => match h.get 1 with
        | none => none
        | some b1 => match Nat.beq j 1 && (wOk b r && stOk b1) with
          | true => some (b.ty, .tup (.mp b1.ty :: b1.cells) :: r)
          | false => none
/-- what a run comes to that began with blocks told of: its result, and the blocks' cells behind it -/
def resS (ty : Nat) (two : Bool) (p : PV) (h : Hp) : Option PV := match freeze deepN h p with
  | none => none
  | some (q, h') => match viewS two h' with
    | none => none
    | some (t, cs) => match Nat.beq t ty with
      | true => some (.tup [q, .tup cs])
      | false => none
def comesS (T : Types) (FT : Fns) (B : Book) (n : Nat) (fi : FI) (ty : Nat) (cs ds : List PV) (q : PV) (cs' : List PV) : Bool :=
  match bodyF (R := PV) T fi (run T FT (ask B) n) (.ptr 0 0 :: ds) (startS ty cs) (resS ty (twoS cs)) with
  | some x => peq 1000 x (.tup [q, .tup cs'])
  | none => false

/-- the blocks told of, behind a run -/
theorem view_sound {ty t : Nat} {cs cs0 ds : List PV} {w w' : World} {F F' : Fz} {M M' : Mp} {ys : List Value} {h : Hp} (hs : HS (startS ty cs) w F M) (hv : VRs w F M (.ptr 0 0 :: ds) ys) (hx : ∀ i p, M i = some p → M' i = some p)
    (h' : HS h w' F' M') (e : viewS (twoS cs) h = some (t, cs0)) : HS (startS t cs0) w' F' M := by
  obtain ⟨pl, hm⟩ : ∃ p, M 0 = some p := by
    rcases ys with _ | ⟨y0, ys⟩
    · exact absurd hv.1 (by simp)
    · have := hv.2 0 _ y0 rfl rfl
      cases this with
      | ptr h => exact ⟨_, h⟩
  unfold viewS at e
  cases hg : h.get 0 with
  | none => simp [hg] at e
  | some b =>
    simp only [hg] at e
    cases h2 : twoS cs with
    | false =>
      simp only [h2] at e
      cases hk : stOk b with
      | false => simp [hk] at e
      | true =>
        simp only [hk] at e
        cases e
        rw [startS_false h2] at hs
        have hM : M = noMap.up 0 pl := by
          funext i
          unfold Mp.up
          split
          · rename_i hi; subst hi; exact hm
          · rename_i hi
            cases hmi : M i with
            | none => rfl
            | some p => exact absurd (hs.lt i p hmi).1 (by show ¬ i < 1; omega)
        rw [hM]
        have hkc : stCells b.cells = true := by
          unfold stOk at hk
          simp only [Bool.and_eq_true] at hk
          exact hk.2.2.2
        rw [startS_one hkc]
        exact h'.alone hg (hx 0 pl hm) hk
    | true =>
      simp only [h2] at e
      cases hh : headPtr b.cells with
      | none => simp [hh] at e
      | some jr =>
        obtain ⟨j, r⟩ := jr
        simp only [hh] at e
        cases hg1 : h.get 1 with
        | none => simp [hg1] at e
        | some b1 =>
          simp only [hg1] at e
          split at e
          · rename_i hc
            cases e
            simp only [Bool.and_eq_true] at hc
            obtain ⟨hj, hk, hk1⟩ := hc
            obtain rfl := Nat.eq_of_beq_eq_true hj
            obtain ⟨t1, cs1, r0, rfl⟩ := twoS_true h2
            obtain ⟨pl1, hm1⟩ : ∃ p, M 1 = some p := by
              have br := hs.br 0 _ pl rfl hm
              obtain ⟨c, e, k1, k2, k3, k4⟩ := br.blk
              obtain ⟨_, y, _, g⟩ := k4 0 (.ptr 1 0) rfl
              cases g with
              | ptr hj => exact ⟨_, hj⟩
            have hM : M = (noMap.up 0 pl).up 1 pl1 := by
              funext i
              unfold Mp.up
              split
              · rename_i hi; subst hi; exact hm1
              · rename_i hi1
                split
                · rename_i hi; subst hi; exact hm
                · rename_i hi
                  cases hmi : M i with
                  | none => rfl
                  | some p => exact absurd (hs.lt i p hmi).1 (by show ¬ i < 2; omega)
            rw [hM]
            exact h'.alone2 hg (hx 0 pl hm) (headPtr_some hh) hg1 (hx 1 pl1 hm1) (by decide) hk hk1
          · cases e

theorem peq_ans {n : Nat} {q0 q : PV} {cs0 cs' : List PV} (h : peq n (.tup [q0, .tup cs0]) (.tup [q, .tup cs']) = true) : ∃ m m', peq m q0 q = true ∧ peqL m' cs0 cs' = true := by
  obtain ⟨ds, m, h1, h2⟩ := peq_tup h
  injection h1 with h1
  subst h1
  cases m with
  | zero => simp [peqL] at h2
  | succ m =>
    simp only [peqL, Bool.and_eq_true] at h2
    obtain ⟨h3, h4⟩ := h2
    cases m with
    | zero => simp [peqL] at h4
    | succ m =>
      simp only [peqL, Bool.and_eq_true] at h4
      obtain ⟨ds, m', h5, h6⟩ := peq_tup h4.1
      injection h5 with h5
      subst h5
      exact ⟨_, _, h3, h6⟩

/-- a run from blocks told of -/
theorem knownS_run (hT : TOk P T) (hm : P.follows .mixedOrders = true) {FT : Fns} (hF : FTOk P FT) {O : Orc} (hO : OrcOk P O) {f : Nat} {fi : FI} (hf : FIOk P f fi) {n ty : Nat} {cs ds : List PV} {p q q0 : PV} {h h2 : Hp} {cs0 cs' : List PV} {m m' : Nat}
    (g : ∀ k : PV → Hp → Option PV, bodyF T fi (run T FT O n) (.ptr 0 0 :: ds) (startS ty cs) k = k p h) (hq : freeze deepN h p = some (q0, h2)) (hg : viewS (twoS cs) h2 = some (ty, cs0))
    (h3 : peq m q0 q = true) (h4 : peqL m' cs0 cs' = true) : KnownS P f ty cs ds q cs' := by
  have hr := run_sound (R := PV) (.un : PV) hT (drawSound (R := PV) .un hT hm) hF hO n
  have hu := run_uni (T := T) (R := PV) FT O n
  obtain ⟨h1, h2'⟩ := bodyF_sound' (.un : PV) hT hu hr ⟨hf.1, hf.2.1, hf.2.2.1⟩ g
  refine ⟨h1, fun w F M args hs hv => ?_⟩
  refine Calls.mono (h2' w F M args hs hv) ?_
  rintro e w' ⟨v, F', M', rfl, k1, k2, k3⟩
  obtain ⟨F2, m1, m2, m3⟩ := freeze_sound deepN h p q0 h2 hq F' v k2 k1
  have hx : Ext w w' F F2 M M' := k3.trans m2
  have hx' : Ext w w' F F2 M M := ⟨hx.os, hx.tape, hx.output, hx.size, hx.keep, hx.cell, fun _ _ h => h, hx.mF, fun _ _ h => .inl h, hx.newF⟩
  exact ⟨v, F2, rfl, peq_VR m h3 m3, HS.told h4 (view_sound hs hv hx.mM m1 hg), hx'⟩

theorem knownS_of (hT : TOk P T) (hm : P.follows .mixedOrders = true) {FT : Fns} (hF : FTOk P FT) {B : Book} (hB : BookOk P B) {f : Nat} {fi : FI} (hf : FIOk P f fi) {n ty : Nat} {cs ds : List PV} {q : PV} {cs' : List PV}
    (h : comesS T FT B n fi ty cs ds q cs' = true) : KnownS P f ty cs ds q cs' := by
  unfold comesS at h
  have hu := run_uni (T := T) (R := PV) FT (ask B) n
  split at h
  · rename_i x hx
    rcases bodyF_uni (T := T) hu fi (.ptr 0 0 :: ds) (startS ty cs) with g | ⟨p, h', g⟩
    · have g' : ∀ k, bodyF T fi (run T FT (ask B) n) (.ptr 0 0 :: ds) (startS ty cs) k = none := g
      rw [g'] at hx; cases hx
    · have g' : ∀ k, bodyF T fi (run T FT (ask B) n) (.ptr 0 0 :: ds) (startS ty cs) k = k p h' := g
      rw [g'] at hx
      unfold resS at hx
      cases hq : freeze deepN h' p with
      | none => simp [hq] at hx
      | some qh =>
        simp only [hq] at hx
        cases hg : viewS (twoS cs) qh.2 with
        | none => simp [hg] at hx
        | some tc =>
          obtain ⟨t, cs0⟩ := tc
          simp only [hg] at hx
          split at hx
          · rename_i hk
            obtain rfl := Nat.eq_of_beq_eq_true hk
            cases hx
            obtain ⟨m, m', h3, h4⟩ := peq_ans h
            exact knownS_run hT hm hF (orc_ask hB) hf g' hq hg h3 h4
          · cases hx
  · cases h
end
end Go.Ev
