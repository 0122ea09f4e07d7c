/- Calls whose answers are known: a book of them, and how a run that asks the book adds a page. -/
import Derived.Test.YthblmompgocidaaGreatDoorEvDraw
set_option linter.all false
/- Calls whose answers are known: a book of them, and how a run that asks the book adds a page. -/
namespace Go.Ev
variable [Env]
section
variable {P : Program} {T : Types}

def peqR : List PV → List PV → Bool
  | [], [] => true
  | a :: l, b :: m => match peqR l m with
    | true => peq 1000 a b
    | false => false
  | _, _ => false

abbrev Page := List (List PV × PV)
abbrev Book := List (Nat × Page)
def find (ds : List PV) : Page → Option PV
  | [] => none
  | (es, q) :: r => match peqR ds es with
    | true => some q
    | false => find ds r
def ask : Book → Orc
  | [] => fun _ _ => none
  | (g, pg) :: r => fun f ds => match Nat.beq g f with
    | true => find ds pg
    | false => ask r f ds

def PageOk (P : Program) (g : Nat) : Page → Prop
  | [] => True
  | (es, q) :: r => KnownX P g es q ∧ PageOk P g r
def BookOk (P : Program) : Book → Prop
  | [] => True
  | (g, pg) :: r => PageOk P g pg ∧ BookOk P r

theorem peqR_VR {w : World} {F : Fz} {M : Mp} : ∀ {ds es : List PV} {ys : List Value}, peqR ds es = true → VRs w F M ds ys → VRs w F M es ys
  | [], [], _, _, h => h
  | [], _ :: _, _, h, _ => by simp [peqR] at h
  | _ :: _, [], _, h, _ => by simp [peqR] at h
  | a :: l, b :: m, ys, h, hv => by
    unfold peqR at h
    split at h
    · rename_i hl
      cases ys with
      | nil => exact absurd hv.1 (by simp)
      | cons y ys =>
        have h1 : VRs w F M l ys := ⟨by simpa using hv.1, fun i c z hc hz => hv.2 (i + 1) c z (by simpa using hc) (by simpa using hz)⟩
        have h2 := peqR_VR hl h1
        have h3 := peq_VR 1000 h (hv.2 0 a y rfl rfl)
        refine ⟨by simpa using h2.1, fun i c z hc hz => ?_⟩
        cases i with
        | zero => simp at hc hz; subst hc; subst hz; exact h3
        | succ i => exact h2.2 i c z (by simpa using hc) (by simpa using hz)
    · cases h

theorem peqR_cons {x y : PV} {l m : List PV} (h : peqR (x :: l) (y :: m) = true) : peq 1000 x y = true ∧ peqR l m = true := by
  unfold peqR at h
  split at h
  · rename_i g; exact ⟨h, g⟩
  · cases h
theorem peq_top {n : Nat} {x : PV} (h : peq n x .top = true) : x = .top := by
  cases n with
  | zero => simp [peq] at h
  | succ n => cases x <;> simp [peq] at h <;> rfl
theorem peq_top' {n : Nat} {x : PV} (h : peq n .top x = true) : x = .top := by
  cases n with
  | zero => simp [peq] at h
  | succ n => cases x <;> simp [peq] at h <;> rfl
theorem peq_mp {n : Nat} {x : PV} {i : Nat} (h : peq n x (.mp i) = true) : x = .mp i := by
  cases n with
  | zero => simp [peq] at h
  | succ n => cases x <;> simp [peq] at h <;> rw [h]
theorem peq_mp' {n : Nat} {x : PV} {i : Nat} (h : peq n (.mp i) x = true) : x = .mp i := by
  cases n with
  | zero => simp [peq] at h
  | succ n => cases x <;> simp [peq] at h <;> rw [h]
theorem peq_tup {n : Nat} {x : PV} {cs : List PV} (h : peq n x (.tup cs) = true) : ∃ ds m, x = .tup ds ∧ peqL m ds cs = true := by
  cases n with
  | zero => simp [peq] at h
  | succ n => cases x <;> simp [peq] at h <;> exact ⟨_, n, rfl, h⟩
theorem peq_tup' {n : Nat} {x : PV} {cs : List PV} (h : peq n (.tup cs) x = true) : ∃ ds, x = .tup ds := by
  cases n with
  | zero => simp [peq] at h
  | succ n => cases x <;> simp [peq] at h <;> exact ⟨_, rfl⟩
theorem peqL_len : ∀ {n : Nat} {cs ds : List PV}, peqL n cs ds = true → cs.length = ds.length
  | 0, _, _, h => by simp [peqL] at h
  | n + 1, [], [], _ => rfl
  | n + 1, [], _ :: _, h => by simp [peqL] at h
  | n + 1, _ :: _, [], h => by simp [peqL] at h
  | n + 1, a :: cs, b :: ds, h => by
    simp only [peqL, Bool.and_eq_true] at h
    simp [peqL_len h.2]
theorem unKey_some {ds : List PV} {ty : Nat} {cs r : List PV} (h : unKey ds = some (ty, cs, r)) : ds = .top :: .mp ty :: .tup cs :: r := by
  unfold unKey at h
  split at h
  · cases h; rfl
  · cases h
theorem unKey_none {ds es : List PV} (h : peqR ds es = true) (he : unKey es = none) : unKey ds = none := by
  unfold unKey
  split
  · rename_i ty cs r
    exfalso
    rcases es with _ | ⟨a, es⟩
    · simp [peqR] at h
    obtain ⟨h1, h⟩ := peqR_cons h
    rcases es with _ | ⟨b, es⟩
    · simp [peqR] at h
    obtain ⟨h2, h⟩ := peqR_cons h
    rcases es with _ | ⟨c, es⟩
    · simp [peqR] at h
    obtain ⟨h3, h⟩ := peqR_cons h
    obtain rfl := peq_top' h1
    obtain rfl := peq_mp' h2
    obtain ⟨ds, rfl⟩ := peq_tup' h3
    cases he
  · rfl
/-- a block's cells, told otherwise -/
theorem HS.told {cs ds : List PV} {n : Nat} {ty : Nat} {w : World} {F : Fz} {p : Pl} (h : peqL n cs ds = true) (hs : HS ⟨[(0, ⟨cs, cs.length, false, 0, ty⟩)], 1, []⟩ w F (noMap.up 0 p)) :
    HS ⟨[(0, ⟨ds, ds.length, false, 0, ty⟩)], 1, []⟩ w F (noMap.up 0 p) := by
  have hl := peqL_len h
  have hget : ∀ i b', Hp.get ⟨[(0, ⟨ds, ds.length, false, 0, ty⟩)], 1, []⟩ i = some b' → i = 0 ∧ b' = ⟨ds, ds.length, false, 0, ty⟩ := by
    intro i b' h
    unfold Hp.get at h
    rw [Al.get_cons] at h
    split at h
    · rename_i e; cases h; exact ⟨e.symm, rfl⟩
    · cases h
  have hb := hs.br 0 _ p rfl rfl
  refine ⟨fun i b' q h' hM => ?_, fun i j bi bj q q' hi hj _ _ _ => ((hget i bi hi).1.trans (hget j bj hj).1.symm), fun i q h => hs.lt i q h, fun i b' h => ?_, hs.fw, HM.nil⟩
  · obtain ⟨rfl, rfl⟩ := hget i b' h'
    obtain ⟨_, rfl⟩ := up_some hM
    obtain ⟨c, e, k1, k2, k3, k4⟩ := hb.blk
    refine ⟨hb.n.trans hl, hb.sz.trans hl, hb.loose, ⟨c, e, k1, k2, k3, fun o x hx => ?_⟩, hb.nf, hb.ty.1, hb.ty.2⟩
    have hget2 : ∀ (m : Nat) {cs ds : List PV}, peqL m cs ds = true → ∀ (o : Nat) x, ds[o]? = some x → ∃ y m', cs[o]? = some y ∧ peq m' y x = true := by
      intro m
      induction m with
      | zero => intro cs ds h; simp [peqL] at h
      | succ m ih =>
        intro cs ds h o x hx
        rcases cs with _ | ⟨a, cs⟩ <;> rcases ds with _ | ⟨b, ds⟩
        · simp at hx
        · simp [peqL] at h
        · simp [peqL] at h
        · simp only [peqL, Bool.and_eq_true] at h
          cases o with
          | zero => simp at hx; subst hx; exact ⟨a, m, rfl, h.1⟩
          | succ o => exact ih h.2 o x (by simpa using hx)
    obtain ⟨y, m', hy, hp⟩ := hget2 n h o x hx
    obtain ⟨g1, v, g2, g3⟩ := k4 o y hy
    exact ⟨(peq_cellOk m' hp).symm.trans g1, v, g2, peq_VR m' hp g3⟩
  · obtain ⟨rfl, _⟩ := hget i b' h
    exact Nat.one_pos

theorem find_ok {g : Nat} {ds : List PV} {q : PV} : ∀ {pg : Page}, PageOk P g pg → find ds pg = some q → KnownX P g ds q
  | [], _, h => by cases h
  | (es, q') :: r, hk, h => by
    unfold find at h
    split at h
    · rename_i hp
      cases h
      have h1 := hk.1
      unfold KnownX at h1 ⊢
      cases he : unKey es with
      | none =>
        rw [he] at h1
        rw [unKey_none hp he]
        exact ⟨h1.1, fun w F args hF hv => h1.2 w F args hF (peqR_VR hp hv)⟩
      | some t =>
        obtain ⟨ty, cs, r⟩ := t
        rw [he] at h1
        obtain ⟨q1, cs', rfl, g1, g2⟩ := h1
        obtain rfl := unKey_some he
        rcases ds with _ | ⟨a, ds⟩
        · simp [peqR] at hp
        obtain ⟨p1, hp1⟩ := peqR_cons hp
        rcases ds with _ | ⟨b, ds⟩
        · simp [peqR] at hp1
        obtain ⟨p2, hp2⟩ := peqR_cons hp1
        rcases ds with _ | ⟨c, ds⟩
        · simp [peqR] at hp2
        obtain ⟨p3, hp3⟩ := peqR_cons hp2
        obtain rfl := peq_top p1
        obtain rfl := peq_mp p2
        obtain ⟨cs2, m, rfl, p4⟩ := peq_tup p3
        refine ⟨q1, cs', rfl, g1, fun w F p args hs hv => ?_⟩
        have hv' : VRs w F (noMap.up 0 p) (.ptr 0 0 :: r) args.toList := by
          rcases hargs : args.toList with _ | ⟨y0, ys⟩
          · rw [hargs] at hv; exact absurd hv.1 (by simp)
          · rw [hargs] at hv
            have hvr : VRs w F (noMap.up 0 p) ds ys := ⟨by simpa using hv.1, fun i c z hc hz => hv.2 (i + 1) c z (by simpa using hc) (by simpa using hz)⟩
            have := peqR_VR hp3 hvr
            refine ⟨by simpa using this.1, fun i c y hc hy => ?_⟩
            cases i with
            | zero => simp at hc hy; subst hc; subst hy; exact hv.2 0 _ y0 rfl rfl
            | succ i => exact this.2 i c y (by simpa using hc) (by simpa using hy)
        have := g2 w F p args (HS.told p4 hs) hv'
        rw [← peqL_len p4] at this
        exact this
    · exact find_ok hk.2 h

theorem orc_ask : ∀ {B : Book}, BookOk P B → OrcOk P (ask B)
  | [], _, f, ds, q, h => by cases h
  | (g, pg) :: r, hk, f, ds, q, h => by
    unfold ask at h
    split at h
    · rename_i hg
      have hg := Nat.eq_of_beq_eq_true hg
      subst hg
      exact find_ok hk.1 h
    · exact orc_ask hk.2 f ds q h

theorem PageOk.app {g : Nat} : ∀ {a b : Page}, PageOk P g a → PageOk P g b → PageOk P g (a ++ b)
  | [], _, _, h => h
  | _ :: _, _, h1, h2 => ⟨h1.1, h1.2.app h2⟩

/-- a function that is told of in a table's entry -/
def FIOk (P : Program) (f : Nat) (fi : FI) : Prop := P.funcs[f]? = some fi.fn ∧ (fi.fn.name == "runtime.NumGoroutine") = false ∧ (∀ c, fi.fn.body = some c → codeOk fi c = true) ∧ (fi.fn.body = none → Extern.findNext fi.fn = none ∧ (fi.frz = false → Extern.find fi.fn = some Extern.AbiNoEscape.same) ∧ (fi.frz = true → Extern.find fi.fn = some Extern.BytealgCompare.compare))

def fiOk (fi : FI) : Bool := match fi.fn.name == "runtime.NumGoroutine" with
  | true => false
  | false => match fi.fn.body with
    | none => false
    | some c => codeOk fi c

theorem FIOk.of {f : Nat} {fi : FI} (h : P.funcs[f]? = some fi.fn) (hc : fiOk fi = true) : FIOk P f fi := by
  unfold fiOk at hc
  split at hc
  · cases hc
  · rename_i hn
    refine ⟨h, hn, fun c hb => ?_, fun hb => ?_⟩
    · rw [hb] at hc
      exact hc
    · rw [hb] at hc
      cases hc

/-- abi.NoEscape -/
theorem FIOk.ext {f : Nat} {fi : FI} (h : P.funcs[f]? = some fi.fn) (hn : (fi.fn.name == "runtime.NumGoroutine") = false) (hb : fi.fn.body.isNone = true) (hz : fi.frz = false) (h1 : Extern.findNext fi.fn = none) (h2 : Extern.find fi.fn = some Extern.AbiNoEscape.same) : FIOk P f fi :=
  ⟨h, hn, fun c hc => (by rw [hc] at hb; cases hb), fun _ => ⟨h1, fun _ => h2, fun h => by rw [hz] at h; cases h⟩⟩
/-- bytealg's cmpstring -/
theorem FIOk.cmp {f : Nat} {fi : FI} (h : P.funcs[f]? = some fi.fn) (hn : (fi.fn.name == "runtime.NumGoroutine") = false) (hb : fi.fn.body.isNone = true) (hz : fi.frz = true) (h1 : Extern.findNext fi.fn = none) (h2 : Extern.find fi.fn = some Extern.BytealgCompare.compare) : FIOk P f fi :=
  ⟨h, hn, fun c hc => (by rw [hc] at hb; cases hb), fun _ => ⟨h1, fun h => (by rw [hz] at h; cases h), fun _ => h2⟩⟩

/-- what stands in a tree, at its numbers -/
def Tr.All {α : Type} (Q : Nat → α → Prop) : (Nat → Nat) → Tr α → Prop
  | _, .lf => True
  | g, .nd l v r => (match v with | none => True | some x => Q (g 0) x) ∧ Tr.All Q (fun m => g (2 * m + 1)) l ∧ Tr.All Q (fun m => g (2 * m + 2)) r

theorem Tr.All.get {α : Type} {Q : Nat → α → Prop} : ∀ {t : Tr α} {g : Nat → Nat} {n : Nat} {x : α}, t.All Q g → t.get n = some x → Q (g n) x
  | .lf, _, _, _, _, h => by cases h
  | .nd l v r, g, n, x, ha, h => by
    cases n with
    | zero =>
      have h : v = some x := h
      subst h
      exact ha.1
    | succ m =>
      unfold Tr.get at h
      simp only [] at h
      split at h
      · rename_i hm
        have hm := Nat.eq_of_beq_eq_true hm
        have := Tr.All.get ha.2.1 h
        rwa [show 2 * (m / 2) + 1 = m + 1 by omega] at this
      · rename_i hm
        have hm : m % 2 ≠ 0 := fun e => by rw [e] at hm; exact absurd hm (by decide)
        have := Tr.All.get ha.2.2 h
        rwa [show 2 * (m / 2) + 2 = m + 1 by omega] at this

def Tr.allB {α : Type} (q : α → Bool) : Tr α → Bool
  | .lf => true
  | .nd l v r => (match v with | none => true | some x => q x) && (Tr.allB q l && Tr.allB q r)

theorem Tr.allB_get {α : Type} {q : α → Bool} : ∀ {t : Tr α} {n : Nat} {x : α}, t.allB q = true → t.get n = some x → q x = true
  | .lf, _, _, _, h => by cases h
  | .nd l v r, n, x, ha, h => by
    simp only [Tr.allB, Bool.and_eq_true] at ha
    cases n with
    | zero =>
      have h : v = some x := h
      subst h
      exact ha.1
    | succ m =>
      unfold Tr.get at h
      simp only [] at h
      split at h
      · exact Tr.allB_get ha.2.1 h
      · exact Tr.allB_get ha.2.2 h

theorem TOk.of {T : Types} (h : T.All (fun t i => mkTy P t = some i ∧ zeroOk i.zero = true) id) (hf : T.allB (fun i => !Nat.beq i.kind 3 || i.fields.all fun x => (T.get x.2).isSome) = true) : TOk P T :=
  ⟨fun _ _ e => h.get e, fun t i e hk x hx => by
    have := Tr.allB_get hf e
    simp only [hk, Nat.beq_refl, Bool.not_true, Bool.false_or, List.all_eq_true] at this
    exact Option.isSome_iff_exists.1 (this x hx)⟩

theorem FTOk.of {FT : Fns} (h : FT.All (FIOk P) id) : FTOk P FT := fun _ _ hf => h.get hf

/-- a run that asks the book and comes to q -/
def comes (T : Types) (FT : Fns) (B : Book) (n : Nat) (fi : FI) (ds : List PV) (q : PV) : Bool :=
  match callD (R := PV) T fi (run T FT (ask B) n) (fun p _ => some p) (some (ds, ⟨[], 0, []⟩)) with
  | some p => peq 1000 p q
  | none => false

theorem known_of (hT : TOk P T) (hm : P.follows .mixedOrders = true) {FT : Fns} (hF : FTOk P FT) {B : Book} (hB : BookOk P B) {f : Nat} {fi : FI} (hf : FIOk P f fi) {n : Nat} {ds : List PV} {q : PV}
    (h : comes T FT B n fi ds q = true) : Known P f ds q := by
  have hO := orc_ask hB
  have hr := run_sound (R := PV) (.un : PV) hT (drawSound (R := PV) .un hT hm) hF hO n
  have hu := run_uni (T := T) (R := PV) FT (ask B) n
  unfold comes at h
  split at h
  · rename_i p hp
    unfold callD at hp
    simp only [] at hp
    rcases bodyF_uni (T := T) hu fi ds ⟨[], 0, []⟩ with g | ⟨x, h', g⟩
    · have g' : ∀ k, bodyF T fi (run T FT (ask B) n) ds ⟨[], 0, []⟩ k = none := g
      rw [g'] at hp; cases hp
    · have g' : ∀ k, bodyF T fi (run T FT (ask B) n) ds ⟨[], 0, []⟩ k = k x h' := g
      rw [g'] at hp
      unfold dataK at hp
      cases hq : freeze deepN h' x with
      | none => simp [hq] at hp
      | some qh =>
        simp only [hq] at hp
        cases hp
        obtain ⟨h1, h2⟩ := bodyF_sound' (.un : PV) hT hu hr ⟨hf.1, hf.2.1, hf.2.2.1⟩ g'
        refine ⟨h1, fun w F args hF1 hv => ?_⟩
        refine Calls.mono (h2 w F noMap args (HS.empty 0 hF1) hv) ?_
        rintro e w' ⟨v, F', M', rfl, k1, k2, k3⟩
        obtain ⟨F2, m1, m2, m3⟩ := freeze_sound deepN h' x qh.1 qh.2 hq F' v k2 k1
        have hx : Ext w w' F F2 noMap M' := k3.trans m2
        have hx' : Ext w w' F F2 noMap noMap := ⟨hx.os, hx.tape, hx.output, hx.size, hx.keep, hx.cell, fun _ _ h => h, hx.mF, fun _ _ h => .inl h, hx.newF⟩
        exact ⟨v, F2, rfl, peq_VR 1000 h m3, m1.fw, hx'⟩
  · cases h

/-- what a run comes to that began with a block told of: its result, and the block's cells behind it -/
def resS (ty : Nat) (p : PV) (h : Hp) : Option PV := match freeze deepN h p with
  | none => none
  | some (q, h') => match h'.get 0 with
    | none => none
    | some b => match stOk b && Nat.beq b.ty ty with
      | true => some (.tup [q, .tup b.cells])
      | false => none
def startS (ty : Nat) (cs : List PV) : Hp := ⟨[(0, ⟨cs, cs.length, false, 0, ty⟩)], 1, []⟩
def comesS (T : Types) (FT : Fns) (B : Book) (n : Nat) (fi : FI) (ty : Nat) (cs ds : List PV) (q : PV) (cs' : List PV) : Bool :=
  match bodyF (R := PV) T fi (run T FT (ask B) n) (.ptr 0 0 :: ds) (startS ty cs) (resS ty) with
  | some x => peq 1000 x (.tup [q, .tup cs'])
  | none => false

theorem peq_ans {n : Nat} {q0 q : PV} {cs0 cs' : List PV} (h : peq n (.tup [q0, .tup cs0]) (.tup [q, .tup cs']) = true) : ∃ m m', peq m q0 q = true ∧ peqL m' cs0 cs' = true := by
  obtain ⟨ds, m, h1, h2⟩ := peq_tup h
  injection h1 with h1
  subst h1
  cases m with
  | zero => simp [peqL] at h2
  | succ m =>
    simp only [peqL, Bool.and_eq_true] at h2
    obtain ⟨h3, h4⟩ := h2
    cases m with
    | zero => simp [peqL] at h4
    | succ m =>
      simp only [peqL, Bool.and_eq_true] at h4
      obtain ⟨ds, m', h5, h6⟩ := peq_tup h4.1
      injection h5 with h5
      subst h5
      exact ⟨_, _, h3, h6⟩

/-- a run from a block told of -/
theorem knownS_run (hT : TOk P T) (hm : P.follows .mixedOrders = true) {FT : Fns} (hF : FTOk P FT) {O : Orc} (hO : OrcOk P O) {f : Nat} {fi : FI} (hf : FIOk P f fi) {n ty : Nat} {cs ds : List PV} {p q q0 : PV} {h h2 : Hp} {b : Blk} {cs' : List PV} {m m' : Nat}
    (g : ∀ k : PV → Hp → Option PV, bodyF T fi (run T FT O n) (.ptr 0 0 :: ds) (startS ty cs) k = k p h) (hq : freeze deepN h p = some (q0, h2)) (hg : h2.get 0 = some b) (hk : stOk b = true) (ht : b.ty = ty)
    (h3 : peq m q0 q = true) (h4 : peqL m' b.cells cs' = true) : KnownS P f ty cs ds q cs' := by
  have hr := run_sound (R := PV) (.un : PV) hT (drawSound (R := PV) .un hT hm) hF hO n
  have hu := run_uni (T := T) (R := PV) FT O n
  obtain ⟨h1, h2'⟩ := bodyF_sound' (.un : PV) hT hu hr ⟨hf.1, hf.2.1, hf.2.2.1⟩ g
  refine ⟨h1, fun w F pl args hs hv => ?_⟩
  refine Calls.mono (h2' w F (noMap.up 0 pl) args hs hv) ?_
  rintro e w' ⟨v, F', M', rfl, k1, k2, k3⟩
  obtain ⟨F2, m1, m2, m3⟩ := freeze_sound deepN h p q0 h2 hq F' v k2 k1
  have hx : Ext w w' F F2 (noMap.up 0 pl) M' := k3.trans m2
  have hx' : Ext w w' F F2 (noMap.up 0 pl) (noMap.up 0 pl) := ⟨hx.os, hx.tape, hx.output, hx.size, hx.keep, hx.cell, fun _ _ h => h, hx.mF, fun _ _ h => .inl h, hx.newF⟩
  have hm0 : M' 0 = some pl := hx.mM 0 pl rfl
  have ha := m1.alone hg hm0 hk
  have hb := HS.told h4 ha
  have n1 : pl.sz = cs.length := (hs.br 0 _ pl rfl rfl).sz
  have n2 : pl.sz = cs'.length := (hb.br 0 _ pl rfl rfl).sz
  rw [ht, ← n2, n1] at hb
  exact ⟨v, F2, rfl, peq_VR m h3 m3, hb, hx'⟩

theorem knownS_of (hT : TOk P T) (hm : P.follows .mixedOrders = true) {FT : Fns} (hF : FTOk P FT) {B : Book} (hB : BookOk P B) {f : Nat} {fi : FI} (hf : FIOk P f fi) {n ty : Nat} {cs ds : List PV} {q : PV} {cs' : List PV}
    (h : comesS T FT B n fi ty cs ds q cs' = true) : KnownS P f ty cs ds q cs' := by
  unfold comesS at h
  have hu := run_uni (T := T) (R := PV) FT (ask B) n
  split at h
  · rename_i x hx
    rcases bodyF_uni (T := T) hu fi (.ptr 0 0 :: ds) (startS ty cs) with g | ⟨p, h', g⟩
    · have g' : ∀ k, bodyF T fi (run T FT (ask B) n) (.ptr 0 0 :: ds) (startS ty cs) k = none := g
      rw [g'] at hx; cases hx
    · have g' : ∀ k, bodyF T fi (run T FT (ask B) n) (.ptr 0 0 :: ds) (startS ty cs) k = k p h' := g
      rw [g'] at hx
      unfold resS at hx
      cases hq : freeze deepN h' p with
      | none => simp [hq] at hx
      | some qh =>
        simp only [hq] at hx
        cases hg : qh.2.get 0 with
        | none => simp [hg] at hx
        | some b =>
          simp only [hg] at hx
          split at hx
          · rename_i hk
            simp only [Bool.and_eq_true] at hk
            cases hx
            obtain ⟨m, m', h3, h4⟩ := peq_ans h
            exact knownS_run hT hm hF (orc_ask hB) hf g' hq hg hk.1 (Nat.eq_of_beq_eq_true hk.2) h3 h4
          · cases hx
  · cases h
end
end Go.Ev

/- The same evaluator, laid for a machine that keeps what it has reduced: what hangs on the code alone stands in boxes, and what is looked at often is taken apart by recursors. -/
namespace Go.Ev

structure Bx (α : Type) where
  f : α

/-! ### lists, by their recursors -/
noncomputable def Al.getF {α : Type} (t : Al α) (n : Nat) : Option α :=
  List.rec (motive := fun _ => Option α) none (fun kx _ ih => Bool.rec (motive := fun _ => Option α) ih (some kx.2) (Nat.beq kx.1 n)) t

noncomputable def Al.keepF {α : Type} (t : Al α) (ks : List Nat) : Al α :=
  List.rec (motive := fun _ => Al α) [] (fun k _ ih => Option.rec (motive := fun _ => Al α) ih (fun x => (k, x) :: ih) (Al.getF t k)) ks

noncomputable def getF {α : Type} (l : List α) (n : Nat) : Option α :=
  List.rec (motive := fun _ => Nat → Option α) (fun _ => none) (fun a _ ih n => Bool.rec (motive := fun _ => Option α) (ih (Nat.pred n)) (some a) (Nat.beq n 0)) l n

noncomputable def dropF {α : Type} (l : List α) (n : Nat) : List α :=
  List.rec (motive := fun _ => Nat → List α) (fun _ => []) (fun a r ih n => Bool.rec (motive := fun _ => List α) (ih (Nat.pred n)) (a :: r) (Nat.beq n 0)) l n

noncomputable def consT {α : Type} (a : α) (r : Option (List α)) : Option (List α) :=
  Option.rec (motive := fun _ => Option (List α)) none (fun l => some (a :: l)) r

noncomputable def takeF {α : Type} (l : List α) (n : Nat) : Option (List α) :=
  List.rec (motive := fun _ => Nat → Option (List α)) (fun n => Bool.rec (motive := fun _ => Option (List α)) none (some []) (Nat.beq n 0))
    (fun a _ ih n => Bool.rec (motive := fun _ => Option (List α)) (consT a (ih (Nat.pred n))) (some []) (Nat.beq n 0)) l n

noncomputable def lenF {α : Type} (l : List α) : Nat := List.rec (motive := fun _ => Nat) 0 (fun _ _ ih => Nat.succ ih) l

noncomputable def initF (l : List PV) : Tm :=
  List.rec (motive := fun _ => Nat → Tm) (fun _ => []) (fun p _ ih i => (i, p) :: ih (Nat.succ i)) l 0

noncomputable def consOF (a : Option PV) (r : Option (List PV)) : Option (List PV) :=
  Option.rec (motive := fun _ => Option (List PV)) none (fun x => Option.rec (motive := fun _ => Option (List PV)) none (fun l => some (x :: l)) r) a

noncomputable def opdB : Operand → Bx (Tm → Option PV)
  | .tmp t => ⟨fun tm => Al.getF tm t⟩
  | .const x => match flat x with
    | true => ⟨fun _ => some (.v x)⟩
    | false => ⟨fun _ => none⟩
  | .func f => ⟨fun _ => some (.clo f [])⟩
  | .global _ => ⟨fun _ => none⟩

noncomputable def opdsB : List Operand → Bx (Tm → Option (List PV))
  | [] => ⟨fun _ => some []⟩
  | x :: r => ⟨fun tm => consOF ((opdB x).f tm) ((opdsB r).f tm)⟩

noncomputable def partsB : List (Nat × Operand) → Bx (Tm → Option (List (Nat × PV)))
  | [] => ⟨fun _ => some []⟩
  | (i, x) :: r => ⟨fun tm => consP i ((opdB x).f tm) ((partsB r).f tm)⟩

noncomputable def opdOB : Option Operand → Bx (Tm → Option (Option PV))
  | none => ⟨fun _ => some none⟩
  | some x => ⟨fun tm => someO ((opdB x).f tm)⟩

/-! ### views -/
inductive Ad where
  | p (id off : Nat)
  | e (cs : List PV) (off : Nat)
  | no
inductive Sv where
  | s (es : List (List PV))
  | r (id off len rs : Nat)
  | nil
  | no
noncomputable def vInt (v : Value) : Option (IntKind × Int) :=
  Value.rec (motive_1 := fun _ => Option (IntKind × Int)) (motive_2 := fun _ => Unit) (motive_3 := fun _ => Unit) (fun _ => none) (fun k n => some (k, n)) (fun _ _ => none) (fun _ _ _ => none) (fun _ => none) (fun _ => none) (fun _ _ _ => none) (fun _ => none) (fun _ => none) (fun _ _ _ _ _ => none) none (fun _ _ _ => none) none (fun _ _ => none) (fun _ _ => none) (fun _ _ => ()) () (fun _ _ _ _ => ()) v
noncomputable def vBool (v : Value) : Option Bool :=
  Value.rec (motive_1 := fun _ => Option Bool) (motive_2 := fun _ => Unit) (motive_3 := fun _ => Unit) (fun b => some b) (fun _ _ => none) (fun _ _ => none) (fun _ _ _ => none) (fun _ => none) (fun _ => none) (fun _ _ _ => none) (fun _ => none) (fun _ => none) (fun _ _ _ _ _ => none) none (fun _ _ _ => none) none (fun _ _ => none) (fun _ _ => none) (fun _ _ => ()) () (fun _ _ _ _ => ()) v
noncomputable def vWant (v : Value) : Option (Option Bool) :=
  Value.rec (motive_1 := fun _ => Option (Option Bool)) (motive_2 := fun _ => Unit) (motive_3 := fun _ => Unit) (fun b => some (some b)) (fun _ _ => none) (fun _ _ => none) (fun _ _ _ => none) (fun _ => none) (fun _ => none) (fun _ _ _ => none) (fun _ => none) (fun _ => none) (fun _ _ _ _ _ => none) none (fun _ _ _ => none) none (fun _ _ => none) (fun _ _ => none) (fun _ _ => ()) () (fun _ _ _ _ => ()) v
noncomputable def vSv (v : Value) : Sv :=
  Value.rec (motive_1 := fun _ => Sv) (motive_2 := fun _ => Unit) (motive_3 := fun _ => Unit) (fun _ => .no) (fun _ _ => .no) (fun _ _ => .no) (fun _ _ _ => .no) (fun _ => .no) (fun _ => .no) (fun a n m => Option.rec (motive := fun _ => Sv) (Bool.rec (motive := fun _ => Sv) .no (Bool.rec (motive := fun _ => Sv) .no .nil (Nat.beq m 0)) (Nat.beq n 0)) (fun _ => .no) a) (fun _ => .no) (fun _ => .no) (fun _ _ _ _ _ => .no) .no (fun _ _ _ => .no) .no (fun _ _ => .no) (fun _ _ => .no) (fun _ _ => ()) () (fun _ _ _ _ => ()) v
noncomputable def pInt (p : PV) : Option (IntKind × Int) :=
  PV.rec (motive_1 := fun _ => Option (IntKind × Int)) (motive_2 := fun _ => Unit) (motive_3 := fun _ => Unit) vInt (fun _ _ => none) (fun _ _ => none) (fun _ _ _ => none) (fun _ _ _ _ _ => none) (fun _ _ => none) (fun _ _ _ => none) (fun _ _ _ => none) none (fun _ => none) (fun _ => none) (fun _ => none) none (fun _ _ _ => none) () (fun _ _ _ _ => ()) () (fun _ _ _ _ => ()) p
noncomputable def pBool (p : PV) : Option Bool :=
  PV.rec (motive_1 := fun _ => Option Bool) (motive_2 := fun _ => Unit) (motive_3 := fun _ => Unit) vBool (fun _ _ => none) (fun _ _ => none) (fun _ _ _ => none) (fun _ _ _ _ _ => none) (fun _ _ => none) (fun _ _ _ => none) (fun _ _ _ => none) none (fun _ => none) (fun _ => none) (fun _ => none) none (fun _ _ _ => none) () (fun _ _ _ _ => ()) () (fun _ _ _ _ => ()) p
noncomputable def pWant (p : PV) : Option (Option Bool) :=
  PV.rec (motive_1 := fun _ => Option (Option Bool)) (motive_2 := fun _ => Unit) (motive_3 := fun _ => Unit) vWant (fun _ _ => none) (fun _ _ => none) (fun _ _ _ => none) (fun _ _ _ _ _ => none) (fun _ _ => none) (fun _ _ _ => none) (fun _ _ _ => none) (some none) (fun _ => none) (fun _ => none) (fun _ => none) none (fun _ _ _ => none) () (fun _ _ _ _ => ()) () (fun _ _ _ _ => ()) p
noncomputable def pAd (p : PV) : Ad :=
  PV.rec (motive_1 := fun _ => Ad) (motive_2 := fun _ => Unit) (motive_3 := fun _ => Unit) (fun _ => .no) (fun _ _ => .no) (fun _ _ => .no) (fun _ _ _ => .no) (fun _ _ _ _ _ => .no) Ad.p (fun cs o _ => .e cs o) (fun _ _ _ => .no) .no (fun _ => .no) (fun _ => .no) (fun _ => .no) .no (fun _ _ _ => .no) () (fun _ _ _ _ => ()) () (fun _ _ _ _ => ()) p
noncomputable def pSv (p : PV) : Sv :=
  PV.rec (motive_1 := fun _ => Sv) (motive_2 := fun _ => Unit) (motive_3 := fun _ => Unit) vSv (fun _ _ => .no) (fun _ _ => .no) (fun es _ _ => .s es) (fun id off len _ rs => .r id off len rs) (fun _ _ => .no) (fun _ _ _ => .no) (fun _ _ _ => .no) .no (fun _ => .no) (fun _ => .no) (fun _ => .no) .no (fun _ _ _ => .no) () (fun _ _ _ _ => ()) () (fun _ _ _ _ => ()) p
noncomputable def pAgg (p : PV) : Option (List PV) :=
  PV.rec (motive_1 := fun _ => Option (List PV)) (motive_2 := fun _ => Unit) (motive_3 := fun _ => Unit) (fun _ => none) (fun cs _ => some cs) (fun _ _ => none) (fun _ _ _ => none) (fun _ _ _ _ _ => none) (fun _ _ => none) (fun _ _ _ => none) (fun _ _ _ => none) none (fun _ => none) (fun _ => none) (fun _ => none) none (fun _ _ _ => none) () (fun _ _ _ _ => ()) () (fun _ _ _ _ => ()) p
noncomputable def oInt (o : Option PV) : Option (IntKind × Int) := Option.rec (motive := fun _ => Option (IntKind × Int)) none pInt o
noncomputable def oBool (o : Option PV) : Option Bool := Option.rec (motive := fun _ => Option Bool) none pBool o
noncomputable def oWant (o : Option PV) : Option (Option Bool) := Option.rec (motive := fun _ => Option (Option Bool)) none pWant o
noncomputable def oAd (o : Option PV) : Ad := Option.rec (motive := fun _ => Ad) .no pAd o
noncomputable def oSv (o : Option PV) : Sv := Option.rec (motive := fun _ => Sv) .no pSv o
noncomputable def oAgg (o : Option PV) : Option (List PV) := Option.rec (motive := fun _ => Option (List PV)) none pAgg o

/-! ### numbers -/
noncomputable def ikN (k : IntKind) : Nat := IntKind.rec (motive := fun _ => Nat) 0 1 2 3 4 5 6 7 k
noncomputable def natF {α : Type} (n : Nat) (k : Nat → α) : α := Nat.rec (motive := fun _ => α) (k 0) (fun m _ => k (Nat.succ m)) n
noncomputable def intF {α : Type} (n : Int) (k : Int → α) : α := Int.rec (motive := fun _ => α) (fun m => natF m fun m => k (.ofNat m)) (fun m => natF m fun m => k (.negSucc m)) n
noncomputable def wrapF (k : IntKind) (n : Int) : Int :=
  Bool.rec (motive := fun _ => Int) (k.wrap n) (Int.rec (motive := fun _ => Int) (fun m => Bool.rec (motive := fun _ => Int) (k.wrap n) n (Nat.ble m 9223372036854775807)) (fun m => Bool.rec (motive := fun _ => Int) (k.wrap n) n (Nat.ble m 9223372036854775807)) n) (Nat.beq (ikN k) 3)
noncomputable def addF (a b : Int) : Int :=
  Int.rec (motive := fun _ => Int) (fun m => Int.rec (motive := fun _ => Int) (fun n => .ofNat (Nat.add m n)) (fun _ => a + b) b) (fun _ => a + b) a
noncomputable def lebF (a b : Int) : Bool :=
  Int.rec (motive := fun _ => Bool) (fun m => Int.rec (motive := fun _ => Bool) (fun n => Nat.ble m n) (fun _ => false) b) (fun m => Int.rec (motive := fun _ => Bool) (fun _ => true) (fun n => Nat.ble n m) b) a
noncomputable def eqbF (a b : Int) : Bool :=
  Int.rec (motive := fun _ => Bool) (fun m => Int.rec (motive := fun _ => Bool) (fun n => Nat.beq m n) (fun _ => false) b) (fun m => Int.rec (motive := fun _ => Bool) (fun _ => false) (fun n => Nat.beq m n) b) a
noncomputable def notF (b : Bool) : Bool := Bool.rec (motive := fun _ => Bool) true false b
noncomputable def cmpF (f : Int → Int → Bool) (k k' : IntKind) (a b : Int) : Option PV :=
  Bool.rec (motive := fun _ => Option PV) none (some (.v (.bool (f a b)))) (Nat.beq (ikN k) (ikN k'))
noncomputable def ariF (f : Int → Int → Int) (k k' : IntKind) (a b : Int) : Option PV :=
  Bool.rec (motive := fun _ => Option PV) none (intF (wrapF k (f a b)) fun r => some (.v (.int k r))) (Nat.beq (ikN k) (ikN k'))

noncomputable def intB : BinOp → Bx (IntKind → IntKind → Int → Int → Option PV)
  | .add => ⟨ariF addF⟩
  | .sub => ⟨ariF fun a b => a - b⟩
  | .eql => ⟨cmpF eqbF⟩
  | .neq => ⟨cmpF fun a b => notF (eqbF a b)⟩
  | .lss => ⟨cmpF fun a b => notF (lebF b a)⟩
  | .leq => ⟨cmpF lebF⟩
  | .gtr => ⟨cmpF fun a b => notF (lebF a b)⟩
  | .geq => ⟨cmpF fun a b => lebF b a⟩
  | op => ⟨intOp op⟩

/-! ### cells -/
noncomputable def aggF (o : Option (List PV)) : Option PV := Option.rec (motive := fun _ => Option PV) none (fun l => some (.agg l)) o

noncomputable def partB (T : Types) (t : TypeId) : Bx (List PV → Nat → Option PV) :=
  match T.get t with
  | none => ⟨fun _ _ => none⟩
  | some i => match i.isAgg with
    | true => ⟨fun cs off => aggF (takeF (dropF cs off) i.size)⟩
    | false => ⟨getF⟩

noncomputable def heldF (f : List PV → Nat → Option PV) (off : Nat) (o : Option Blk) : Option PV := Option.rec (motive := fun _ => Option PV) none (fun b => f b.cells off) o

/-! ### what hangs on calls -/
/-- how much stands in a value that needs no freezing; else too much -/
noncomputable def wt (p : PV) : Nat :=
  PV.rec (motive_1 := fun _ => Nat) (motive_2 := fun _ => Nat) (motive_3 := fun _ => Unit) (fun _ => 1) (fun _ n => Nat.succ n) (fun _ n => Nat.succ n) (fun _ _ _ => 1) (fun _ _ _ _ _ => 1000) (fun _ _ => 1000) (fun _ _ _ => 1000) (fun _ _ _ => 1000) 1 (fun _ => 1) (fun _ => 1) (fun _ => 1000) 1000 (fun _ _ _ => 1000)
    1 (fun _ _ a b => Nat.add (Nat.succ a) b) () (fun _ _ _ _ => ()) p
noncomputable def wtL (l : List PV) : Nat := List.rec (motive := fun _ => Nat) 1 (fun p _ n => Nat.add (Nat.succ (wt p)) n) l
noncomputable def frzL (hp : Hp) (l : List PV) : Option (List PV × Hp) :=
  Bool.rec (motive := fun _ => Option (List PV × Hp)) (freezeL deepN hp l) (some (l, hp)) (Nat.ble (wtL l) 999)
noncomputable def frz (hp : Hp) (p : PV) : Option (PV × Hp) :=
  Bool.rec (motive := fun _ => Option (PV × Hp)) (freeze deepN hp p) (some (p, hp)) (Nat.ble (wt p) 999)

/-! ### operations -/
section
variable {R : Type} (T : Types)
abbrev Nx (R : Type) := PV → Hp → Option R
abbrev DoK (R : Type) := CallK R → Tm → Hp → Nx R → Option R

noncomputable def pureF (next : Nx R) (hp : Hp) (o : Option PV) : Option R := Option.rec (motive := fun _ => Option R) none (fun p => next p hp) o
noncomputable def primF (next : Nx R) (o : Option (PV × Hp)) : Option R := Option.rec (motive := fun _ => Option R) none (fun x => next x.1 x.2) o
noncomputable def pickF (next : Nx R) (hp : Hp) (a b c : Option PV) : Option R :=
  Option.rec (motive := fun _ => Option R) none (fun x => Bool.rec (motive := fun _ => Option R) (pureF next hp b) (pureF next hp a) x) (oBool c)

noncomputable def binFF (slow : Option PV → Option PV → Option (PV × Hp)) (fi : IntKind → IntKind → Int → Int → Option PV) (next : Nx R) (hp : Hp) (x y : Option PV) : Option R :=
  Option.rec (motive := fun _ => Option R) (primF next (slow x y)) (fun a => Option.rec (motive := fun _ => Option R) (primF next (slow x y)) (fun b => pureF next hp (fi a.1 b.1 a.2 b.2)) (oInt y)) (oInt x)

noncomputable def loadFF (f : List PV → Nat → Option PV) (next : Nx R) (hp : Hp) (x : Option PV) : Option R :=
  Ad.rec (motive := fun _ => Option R) (fun id off => pureF next hp (heldF f off (Al.getF hp.blks id))) (fun cs off => pureF next hp (f cs off)) none (oAd x)

noncomputable def offF (d : Nat) (next : Nx R) (hp : Hp) (x : Option PV) : Option R :=
  Ad.rec (motive := fun _ => Option R) (fun id off => natF (Nat.add off d) fun r => next (.ptr id r) hp) (fun cs off => natF (Nat.add off d) fun r => next (.ep cs r) hp) none (oAd x)

noncomputable def fieldAddrB (s : TypeId) (f : Nat) : Bx (Nx R → Hp → Option PV → Option R) :=
  match fieldOf T s f with
  | none => ⟨fun _ _ _ => none⟩
  | some (off, ft) => match sizeT T ft with
    | none => ⟨fun _ _ _ => none⟩
    | some sz => match Nat.ble 1 sz with
      | false => ⟨fun _ _ _ => none⟩
      | true => ⟨offF off⟩

noncomputable def fieldFF (f : List PV → Nat → Option PV) (off : Nat) (next : Nx R) (hp : Hp) (x : Option PV) : Option R :=
  Option.rec (motive := fun _ => Option R) none (fun cs => pureF next hp (f cs off)) (oAgg x)

noncomputable def fieldB (s : TypeId) (f : Nat) : Bx (Nx R → Hp → Option PV → Option R) :=
  match fieldOf T s f with
  | none => ⟨fun _ _ _ => none⟩
  | some (off, ft) => ⟨fieldFF (partB T ft).f off⟩

noncomputable def epF (sz : Nat) (next : Nx R) (hp : Hp) (o : Option (List PV)) : Option R :=
  Option.rec (motive := fun _ => Option R) none (fun e => Bool.rec (motive := fun _ => Option R) none (next (.ep e 0) hp) (Nat.beq (lenF e) sz)) o

noncomputable def idxSlF (sz : Nat) (next : Nx R) (hp : Hp) (s : Sv) (i : Nat) : Option R :=
  Sv.rec (motive := fun _ => Option R) (fun es => epF sz next hp (getF es i))
    (fun id off len rs => Bool.rec (motive := fun _ => Option R) none (Bool.rec (motive := fun _ => Option R) none (natF (Nat.add off (Nat.mul i sz)) fun r => next (.ptr id r) hp) (Nat.beq rs sz)) (Nat.ble (Nat.succ i) len)) none none s

noncomputable def oIx (o : Option PV) : Option Nat :=
  Option.rec (motive := fun _ => Option Nat) none (fun x => Int.rec (motive := fun _ => Option Nat) (fun n => some n) (fun _ => none) x.2) (oInt o)

noncomputable def indexAddrB (t : TypeId) : Bx (Nx R → Hp → Option PV → Option PV → Option R) :=
  match T.get t with
  | none => ⟨fun _ _ _ _ => none⟩
  | some ti => match sizeT T ti.elem with
    | none => ⟨fun _ _ _ _ => none⟩
    | some sz => match Nat.beq ti.kind 1 with
      | true => ⟨fun next hp x i => Option.rec (motive := fun _ => Option R) none (fun n => idxSlF sz next hp (oSv x) n) (oIx i)⟩
      | false => ⟨fun next hp x i => primF next (primIndexAddr T hp t x i)⟩

noncomputable def lenFF (next : Nx R) (hp : Hp) (s : Sv) : Option R :=
  Sv.rec (motive := fun _ => Option R) (fun es => next (.v (.int .i64 (.ofNat (lenF es)))) hp) (fun _ _ len _ => next (.v (.int .i64 (.ofNat len))) hp) (next (.v (.int .i64 (.ofNat 0))) hp) none s

noncomputable def lenB (t : TypeId) : Bx (Nx R → Hp → Option PV → Option R) :=
  match T.get t with
  | none => ⟨fun _ _ _ => none⟩
  | some ti => match Nat.beq ti.kind 1 with
    | true => ⟨fun next hp x => lenFF next hp (oSv x)⟩
    | false => ⟨fun next hp x => primF next (primLen T hp t x)⟩

noncomputable def builtinB (b : Builtin) (args : List Operand) (ts : List TypeId) : Bx (DoK R) :=
  match b with
  | .len => match args, ts with
    | [x], [t] => ⟨fun _ tm hp next => (lenB T t).f next hp ((opdB x).f tm)⟩
    | _, _ => ⟨fun _ _ _ _ => none⟩
  | .append => match args, ts with
    | [x, y], [t, u] => match Nat.beq t u with
      | true => ⟨fun _ tm hp next => primF next (prim2 (app T t hp) ((opdB x).f tm) ((opdB y).f tm))⟩
      | false => ⟨fun _ tm hp next => primF next (prim2 (appZ T t u hp) ((opdB x).f tm) ((opdB y).f tm))⟩
    | _, _ => ⟨fun _ _ _ _ => none⟩
  | .copy => match args, ts with
    | [x, y], [t, u] => match Nat.beq t u with
      | true => ⟨fun _ tm hp next => primF next (prim2 (copyTo T t hp) ((opdB x).f tm) ((opdB y).f tm))⟩
      | false => ⟨fun _ _ _ _ => none⟩
    | _, _ => ⟨fun _ _ _ _ => none⟩
  | .cap => match args, ts with
    | [x], [t] => ⟨fun _ tm hp next => primF next (primCap T hp t ((opdB x).f tm))⟩
    | _, _ => ⟨fun _ _ _ _ => none⟩
  | .clear => match args, ts with
    | [x], [t] => ⟨fun _ tm hp next => primF next (primClear T hp t ((opdB x).f tm))⟩
    | _, _ => ⟨fun _ _ _ _ => none⟩
  | .min => ⟨fun _ tm hp next => primF next (primMin hp false ((opdsB args).f tm))⟩
  | .max => ⟨fun _ tm hp next => primF next (primMin hp true ((opdsB args).f tm))⟩
  | .unsafeSliceData => match args with
    | [x] => ⟨fun _ tm hp next => primF next (sliceData hp ((opdB x).f tm))⟩
    | _ => ⟨fun _ _ _ _ => none⟩
  | .unsafeString => match args, ts with
    | [x, y], [t, _] => ⟨fun _ tm hp next => primF next (unsStr T t hp ((opdB x).f tm) ((opdB y).f tm))⟩
    | _, _ => ⟨fun _ _ _ _ => none⟩
  | _ => ⟨fun _ _ _ _ => none⟩

def callK (call : CallK R) (hp : Hp) (next : Nx R) (f : Option PV) (l : Option (List PV)) : Option R :=
  match f with
  | some (.clo n caps) => match l with
    | none => none
    | some l => call n (l ++ caps) hp next
  | some (.bnd n first) => match l with
    | none => none
    | some l => call n (first ++ l) hp next
  | _ => none

noncomputable def callL (call : CallK R) (n : Nat) (hp : Hp) (next : Nx R) (o : Option (List PV)) : Option R :=
  Option.rec (motive := fun _ => Option R) none (fun l => call n l hp next) o

noncomputable def callB (f : Operand) (args : List Operand) : Bx (DoK R) :=
  match f with
  | .func n => ⟨fun call tm hp next => callL call n hp next ((opdsB args).f tm)⟩
  | f => ⟨fun call tm hp next => callK call hp next ((opdB f).f tm) ((opdsB args).f tm)⟩

/-- an operation that is wanted -/
noncomputable def doB (op : Op) : Bx (DoK R) :=
  match op with
  | .move x => ⟨fun _ tm hp next => pureF next hp ((opdB x).f tm)⟩
  | .assign x => ⟨fun _ tm hp next => pureF next hp ((opdB x).f tm)⟩
  | .pick c a b => ⟨fun _ tm hp next => pickF next hp ((opdB a).f tm) ((opdB b).f tm) ((opdB c).f tm)⟩
  | .alloc t => ⟨fun _ _ hp next => primF next (primAlloc T hp t)⟩
  | .box t x => ⟨fun _ tm hp next => primF next (primBox T hp t ((opdB x).f tm))⟩
  | .build t parts => ⟨fun _ tm hp next => primF next (primBuild T hp t ((partsB parts.toList).f tm))⟩
  | .buildSlice t n parts => ⟨fun _ tm hp next => primF next (primBuildSlice T hp t n ((partsB parts.toList).f tm))⟩
  | .load t x => ⟨fun _ tm hp next => loadFF (partB T t).f next hp ((opdB x).f tm)⟩
  | .store t x y => ⟨fun _ tm hp next => primF next (primStore T hp t ((opdB x).f tm) ((opdB y).f tm))⟩
  | .nilCheck x => ⟨fun _ tm hp next => primF next (primNil hp ((opdB x).f tm))⟩
  | .binOp op t x y _ => ⟨fun _ tm hp next => binFF (primBin T hp op t) (intB op).f next hp ((opdB x).f tm) ((opdB y).f tm)⟩
  | .unOp op _ x => ⟨fun _ tm hp next => primF next (primUn hp op ((opdB x).f tm))⟩
  | .makeFunc fn first caps => ⟨fun _ tm hp next => primF next (primFunc hp fn first.toList ((opdsB first.toList).f tm) ((opdsB caps.toList).f tm))⟩
  | .makeSlice t x y => ⟨fun _ tm hp next => primF next (primMake T hp t ((opdB x).f tm) ((opdB y).f tm))⟩
  | .slice t x lo hi mx => ⟨fun _ tm hp next => primF next (primSlice T hp t ((opdB x).f tm) ((opdOB lo).f tm) ((opdOB hi).f tm) ((opdOB mx).f tm))⟩
  | .fieldAddr s x f => ⟨fun _ tm hp next => (fieldAddrB T s f).f next hp ((opdB x).f tm)⟩
  | .field s x f => ⟨fun _ tm hp next => (fieldB T s f).f next hp ((opdB x).f tm)⟩
  | .indexAddr t x i => ⟨fun _ tm hp next => (indexAddrB T t).f next hp ((opdB x).f tm) ((opdB i).f tm)⟩
  | .index t x i => ⟨fun _ tm hp next => primF next (primIndex T hp t ((opdB x).f tm) ((opdB i).f tm))⟩
  | .extract x i => ⟨fun _ tm hp next => primF next (primExtract hp i ((opdB x).f tm))⟩
  | .makeInterface t x => ⟨fun _ tm hp next => primF next (primIface T hp t ((opdB x).f tm))⟩
  | .convert s d x => ⟨fun _ tm hp next => primF next (primConv T hp s d ((opdB x).f tm))⟩
  | .makeMap t x => ⟨fun _ tm hp next => primF next (primMap T hp t ((opdOB x).f tm))⟩
  | .lookup t x k ok => ⟨fun _ tm hp next => primF next (primLook T hp t ok ((opdB x).f tm) ((opdB k).f tm))⟩
  | .mapUpdate t x k v => ⟨fun _ tm hp next => primF next (primUpd T hp t ((opdB x).f tm) ((opdB k).f tm) ((opdB v).f tm))⟩
  | .insert t x k v => ⟨fun _ tm hp next => primF next (primUpd T hp t ((opdB x).f tm) ((opdB k).f tm) ((opdB v).f tm))⟩
  | .call c => match c.callee with
    | .value f => callB f c.args.toList
    | .builtin b => builtinB T b c.args.toList c.argTypes.toList
    | _ => ⟨fun _ _ _ _ => none⟩
  | _ => ⟨fun _ _ _ _ => none⟩

noncomputable def wantF (want : Bool) (skip go : Option R) (o : Option (Option Bool)) : Option R :=
  Option.rec (motive := fun _ => Option R) none (fun x => Option.rec (motive := fun _ => Option R) skip (fun b => Bool.rec (motive := fun _ => Option R) (Bool.rec (motive := fun _ => Option R) go skip want) (Bool.rec (motive := fun _ => Option R) skip go want) b) x) o

/-- an operation: what follows is told whether it was wanted -/
abbrev DoR (R : Type) := CallK R → Tm → Hp → (Bool → PV → Hp → Option R) → Option R

noncomputable def stepR (nt : Nat) (all : List Oper) (o : Oper) : Bx (DoR R) :=
  match dstOk nt o.dst with
  | false => ⟨fun _ _ _ _ => none⟩
  | true => match o.guard with
    | none => ⟨fun call tm hp next => (doB T o.op).f call tm hp (next true)⟩
    | some (j, want) => match dstAt all j with
      | none => ⟨fun _ _ _ _ => none⟩
      | some d => ⟨fun call tm hp next => wantF want (next false .un hp) ((doB T o.op).f call tm hp (next true)) (oWant (Al.getF tm d))⟩

noncomputable def stepB (nt : Nat) (all : List Oper) (o : Oper) : Bx (DoK R) :=
  match dstOk nt o.dst with
  | false => ⟨fun _ _ _ _ => none⟩
  | true => match o.guard with
    | none => doB T o.op
    | some (j, want) => match dstAt all j with
      | none => ⟨fun _ _ _ _ => none⟩
      | some d => ⟨fun call tm hp next => wantF want (next .un hp) ((doB T o.op).f call tm hp next) (oWant (Al.getF tm d))⟩

noncomputable def opsB (nt : Nat) (all : List Oper) : List Oper → Bx (CallK R → Tm → Hp → (Tm → Hp → Option R) → Option R)
  | [] => ⟨fun _ tm hp k => k tm hp⟩
  | o :: rest => match o.dst with
    | none => ⟨fun call tm hp k => (stepB T nt all o).f call tm hp fun _ h => (opsB nt all rest).f call tm h k⟩
    | some d => ⟨fun call tm hp k => (stepB T nt all o).f call tm hp fun p h => (opsB nt all rest).f call ((d, p) :: tm) h k⟩

def ldArg (t : TypeId) : Option PV → Option (TypeId × PV)
  | none => none
  | some p => some (t, p)

def convLogF (lg : Lg) : PV → Option Lg
  | .v (.int _ _) => some lg
  | _ => none

noncomputable def logB (i m : Nat) (op : Op) : Bx (Lg → Tm → Hp → Hp → PV → Option Lg) :=
  match op with
  | .store _ _ _ => ⟨fun lg _ hp h' _ => logEff T i m lg hp h'⟩
  | .load t x => ⟨fun lg tm hp _ x' => logLoad T i m lg hp.next x' (ldArg t ((opdB x).f tm))⟩
  | .alloc _ => ⟨fun lg _ _ _ _ => some ⟨lg.loads, lg.effs, i :: lg.allocs⟩⟩
  | .box _ _ => ⟨fun lg _ _ _ _ => some ⟨lg.loads, lg.effs, i :: lg.allocs⟩⟩
  | .buildSlice _ _ _ => ⟨fun lg _ _ _ _ => some ⟨lg.loads, lg.effs, i :: lg.allocs⟩⟩
  | .makeSlice _ _ _ => ⟨fun lg _ _ _ _ => some ⟨lg.loads, lg.effs, i :: lg.allocs⟩⟩
  | .makeMap _ _ => ⟨fun _ _ _ _ _ => none⟩
  | .lookup _ _ _ _ => ⟨fun lg _ hp h' _ => logEff T i m lg hp h'⟩
  | .mapUpdate _ _ _ _ => ⟨fun _ _ _ _ _ => none⟩
  | .insert _ _ _ _ => ⟨fun _ _ _ _ _ => none⟩
  | .range _ _ => ⟨fun _ _ _ _ _ => none⟩
  | .next _ _ => ⟨fun _ _ _ _ _ => none⟩
  | .convert _ _ _ => ⟨fun lg _ _ _ x => convLogF lg x⟩
  | .call c => match c.callee with
    | .builtin b => match b with
      | .clear => ⟨fun _ _ _ _ _ => none⟩
      | .cap => ⟨fun _ _ _ _ _ => none⟩
      | .append => ⟨fun lg _ hp h' _ => logEff T i m lg hp h'⟩
      | .copy => ⟨fun lg _ hp h' _ => logEff T i m lg hp h'⟩
      | .unsafeString => ⟨fun lg _ hp h' _ => logEff T i m lg hp h'⟩
      | _ => ⟨fun lg _ _ _ _ => some lg⟩
    | _ => ⟨fun lg _ hp h' _ => logEff T i m lg hp h'⟩
  | _ => ⟨fun lg _ _ _ _ => some lg⟩

noncomputable def ranF (f : Option Lg) (lg : Lg) (run : Bool) : Option Lg := Bool.rec (motive := fun _ => Option Lg) (some lg) f run
noncomputable def logF (lg : Option Lg) (next : Lg → Option R) : Option R := Option.rec (motive := fun _ => Option R) none next lg
def putF (tm : Tm) : Option Nat → Bx (PV → Tm)
  | none => ⟨fun _ => tm⟩
  | some d => ⟨fun p => (d, p) :: tm⟩

noncomputable def opsDB (nt : Nat) (all : List Oper) : List (Nat × Nat) → Bx (Lg → CallK R → Tm → Hp → (Tm → Hp → Option R) → Option R)
  | [] => ⟨fun _ _ tm hp k => k tm hp⟩
  | (i, m) :: L => match all[i]? with
    | none => ⟨fun _ _ _ _ _ => none⟩
    | some o => match o.dst with
      | none => ⟨fun lg call tm hp k => (stepR T nt all o).f call tm hp fun run p h => logF (ranF ((logB T i m o.op).f lg tm hp h p) lg run) fun lg' =>
        (opsDB nt all L).f lg' call tm h k⟩
      | some d => ⟨fun lg call tm hp k => (stepR T nt all o).f call tm hp fun run p h => logF (ranF ((logB T i m o.op).f lg tm hp h p) lg run) fun lg' =>
        (opsDB nt all L).f lg' call ((d, p) :: tm) h k⟩

abbrev KF (R : Type) := Ex → Tm → Hp → Option R
abbrev RF (R : Type) := FI → Code → Tm → Hp → KF R → Option R

noncomputable def sweptB : Option (List Nat) → Bx (Tm → Hp → Hp)
  | none => ⟨fun _ hp => hp⟩
  | some l => ⟨fun tm hp => killAll tm l hp⟩
noncomputable def keptB (ks kl : Option (List Nat)) : Bx (KF R → Tm → Hp → Option R) :=
  match ks with
  | none => ⟨fun k tm hp => k .normal tm ((sweptB kl).f tm hp)⟩
  | some ks => ⟨fun k tm hp => k .normal (Al.keepF tm ks) ((sweptB kl).f tm hp)⟩

noncomputable def condF (a b : Option R) (o : Option PV) : Option R :=
  Option.rec (motive := fun _ => Option R) none (fun x => Bool.rec (motive := fun _ => Option R) b a x) (oBool o)

noncomputable def seqF (next : Tm → Hp → Option R) (k : KF R) (ex : Ex) : Tm → Hp → Option R :=
  Ex.rec (motive := fun _ => Tm → Hp → Option R) next (fun i => k (.exit i)) (k .ret) ex
noncomputable def blockF (id : Nat) (k : KF R) (ex : Ex) : Tm → Hp → Option R :=
  Ex.rec (motive := fun _ => Tm → Hp → Option R) (k .normal) (fun i => Bool.rec (motive := fun _ => Tm → Hp → Option R) (k (.exit i)) (k .normal) (Nat.beq i id)) (k .ret) ex

noncomputable def codeB (fi : FI) : Code → Bx (CallK R → RF R → Tm → Hp → KF R → Option R)
  | .skip => ⟨fun _ _ tm hp k => k .normal tm hp⟩
  | .region id ops draw => match draw with
    | false => ⟨fun call _ tm hp k => (opsB T fi.fn.ntmps ops.toList ops.toList).f call tm hp ((keptB (fi.live.get id) (fi.kills.get id)).f k)⟩
    | true => match fi.sched.get id with
      | some L => ⟨fun call _ tm hp k => (opsDB T fi.fn.ntmps ops.toList L).f ⟨[], [], []⟩ call tm hp ((keptB (fi.live.get id) (fi.kills.get id)).f k)⟩
      | none => ⟨fun _ _ _ _ _ => none⟩
  | .seq a b => ⟨fun call rc tm hp k => (codeB fi a).f call rc tm hp (seqF (fun tm' hp' => (codeB fi b).f call rc tm' hp' k) k)⟩
  | .cond c x y => ⟨fun call rc tm hp k => condF ((codeB fi x).f call rc tm hp k) ((codeB fi y).f call rc tm hp k) ((opdB c).f tm)⟩
  | .block id c => ⟨fun call rc tm hp k => (codeB fi c).f call rc tm hp (blockF id k)⟩
  | .loop c => ⟨fun call rc tm hp k => (codeB fi c).f call rc tm hp (seqF (fun tm' hp' => rc fi (.loop c) tm' hp' k) k)⟩
  | .exit id => ⟨fun _ _ tm hp k => k (.exit id) tm hp⟩
  | .ret => ⟨fun _ _ tm hp k => k .ret tm hp⟩
  | _ => ⟨fun _ _ _ _ _ => none⟩

noncomputable def resB (fn : Func) : Bx (Tm → Hp → Option PV) :=
  match fn.results.toList with
  | [.tmp t] => ⟨fun tm _ => Al.getF tm t⟩
  | _ => ⟨fun tm hp => resOf T fn ⟨tm, hp⟩⟩

noncomputable def endF (res : Tm → Hp → Option PV) (k : Nx R) (ex : Ex) : Tm → Hp → Option R :=
  Ex.rec (motive := fun _ => Tm → Hp → Option R) (fun tm hp => pureF k hp (res tm hp)) (fun _ _ _ => none) (fun tm hp => pureF k hp (res tm hp)) ex

noncomputable def bodyB (fi : FI) : Bx (RF R → List PV → Hp → Nx R → Option R) :=
  match fi.fn.body with
  | none => ⟨fun _ _ _ _ => none⟩
  | some c => ⟨fun rc l hp k => Bool.rec (motive := fun _ => Option R) none (rc fi c (initF l) hp (endF (resB T fi.fn).f k)) (Nat.ble (lenF l) fi.fn.ntmps)⟩

noncomputable def dataKF (k : Nx R) (hp1 : Hp) (p : PV) (h : Hp) : Option R := Option.rec (motive := fun _ => Option R) none (fun x => k x.1 hp1) (frz h p)
noncomputable def dataF (body : List PV → Hp → Nx R → Option R) (k : Nx R) (o : Option (List PV × Hp)) : Option R :=
  Option.rec (motive := fun _ => Option R) none (fun x => body x.1 ⟨[], 0, []⟩ (dataKF k x.2)) o

noncomputable def frzKF (k : Nx R) (p : PV) (h : Hp) : Option R := Option.rec (motive := fun _ => Option R) none (fun x => k x.1 x.2) (frz h p)
noncomputable def ownB (fi : FI) : Bx (RF R → List PV → Hp → Nx R → Option R) :=
  match fi.frz with
  | false => bodyB T fi
  | true => ⟨fun rc l hp k => (bodyB T fi).f rc l hp (frzKF k)⟩
noncomputable def calleeB (FT : Fns) (O : Orc) (f : Nat) : Bx (RF R → List PV → Hp → Nx R → Option R) :=
  match FT.get f with
  | none => ⟨fun _ l hp k => callA O f frzL l hp k⟩
  | some fi => match fi.data with
    | false => match fi.mix with
      | false => match fi.fn.body with
        | some _ => ownB T fi
        | none => ⟨fun _ l hp k => noBody fi.frz l hp k⟩
      | true => ⟨fun rc l hp k => Bool.rec (motive := fun _ => Option R) ((ownB T fi).f rc l hp k) (callO O f k (frzL hp l)) (l.any headUnk)⟩
    | true => ⟨fun rc l hp k => dataF ((bodyB T fi).f rc) k (frzL hp l)⟩

noncomputable def runF (FT : Fns) (O : Orc) : Nat → RF R
  | 0 => fun _ _ _ _ _ => none
  | n + 1 => fun fi c => (codeB T fi c).f (fun f => (calleeB T FT O f).f (runF FT O n)) (runF FT O n)
end

noncomputable def comesF (T : Types) (FT : Fns) (B : Book) (n : Nat) (fi : FI) (ds : List PV) (q : PV) : Bool :=
  match dataF ((bodyB (R := PV) T fi).f (runF T FT (ask B) n)) (fun p _ => some p) (some (ds, ⟨[], 0, []⟩)) with
  | some p => peq 1000 p q
  | none => false

noncomputable def comesSF (T : Types) (FT : Fns) (B : Book) (n : Nat) (fi : FI) (ty : Nat) (cs ds : List PV) (q : PV) (cs' : List PV) : Bool :=
  match (bodyB (R := PV) T fi).f (runF T FT (ask B) n) (.ptr 0 0 :: ds) (startS ty cs) (resS ty) with
  | some x => peq 1000 x (.tup [q, .tup cs'])
  | none => false
end Go.Ev

/- The boxed evaluator comes to what the evaluator comes to. -/
namespace Go.Ev

theorem Al.getF_eq {α : Type} : ∀ (t : Al α) (n : Nat), Al.getF t n = Al.get t n
  | [], _ => rfl
  | (k, x) :: r, n => by
    have h : Al.getF ((k, x) :: r) n = Bool.rec (motive := fun _ => Option α) (Al.getF r n) (some x) (Nat.beq k n) := rfl
    rw [h, Al.getF_eq r n]
    simp only [Al.get]
    cases Nat.beq k n <;> rfl

theorem Al.keepF_eq {α : Type} (t : Al α) : ∀ ks : List Nat, Al.keepF t ks = Al.keep t ks
  | [] => rfl
  | k :: r => by
    have h : Al.keepF t (k :: r) = Option.rec (motive := fun _ => Al α) (Al.keepF t r) (fun x => (k, x) :: Al.keepF t r) (Al.getF t k) := rfl
    rw [h, Al.keepF_eq t r, Al.getF_eq]
    simp only [Al.keep]
    cases Al.get t k <;> rfl

theorem getF_eq {α : Type} : ∀ (l : List α) (n : Nat), getF l n = l[n]?
  | [], n => by simp [getF]
  | a :: l, n => by
    have h : getF (a :: l) n = Bool.rec (motive := fun _ => Option α) (getF l (Nat.pred n)) (some a) (Nat.beq n 0) := rfl
    rw [h]
    cases n with
    | zero => rfl
    | succ m => 
      show getF l m = _
      rw [getF_eq l m]; simp

theorem dropF_eq {α : Type} : ∀ (l : List α) (n : Nat), dropF l n = l.drop n
  | [], n => by simp [dropF]
  | a :: l, n => by
    have h : dropF (a :: l) n = Bool.rec (motive := fun _ => List α) (dropF l (Nat.pred n)) (a :: l) (Nat.beq n 0) := rfl
    rw [h]
    cases n with
    | zero => rfl
    | succ m =>
      show dropF l m = _
      rw [dropF_eq l m]; simp

theorem takeF_eq {α : Type} : ∀ (l : List α) (n : Nat), takeF l n = takeN l n
  | [], n => by cases n <;> rfl
  | a :: l, n => by
    have h : takeF (a :: l) n = Bool.rec (motive := fun _ => Option (List α)) (consT a (takeF l (Nat.pred n))) (some []) (Nat.beq n 0) := rfl
    rw [h]
    cases n with
    | zero => rfl
    | succ m =>
      show consT a (takeF l m) = _
      rw [takeF_eq l m]
      simp only [takeN]
      cases takeN l m <;> rfl

theorem lenF_eq {α : Type} : ∀ l : List α, lenF l = l.length
  | [] => rfl
  | _ :: l => congrArg Nat.succ (lenF_eq l)

theorem initF_eq (l : List PV) : initF l = initT 0 l := by
  have : ∀ (l : List PV) (i : Nat), (List.rec (motive := fun _ => Nat → Tm) (fun _ => []) (fun p _ ih i => (i, p) :: ih (Nat.succ i)) l i : Tm) = initT i l := by
    intro l
    induction l with
    | nil => intro i; rfl
    | cons p l ih => intro i; exact congrArg ((i, p) :: ·) (ih (i + 1))
  exact this l 0

theorem consOF_eq (a : Option PV) (r : Option (List PV)) : consOF a r = consO a r := by cases a <;> cases r <;> rfl

theorem opdB_eq (x : Operand) (tm : Tm) : (opdB x).f tm = opd x tm := by
  cases x with
  | tmp t => exact Al.getF_eq tm t
  | const v => simp only [opdB, opd]; cases flat v <;> rfl
  | func f => rfl
  | global _ => rfl

theorem opdsB_eq : ∀ (l : List Operand) (tm : Tm), (opdsB l).f tm = opds l tm
  | [], _ => rfl
  | x :: r, tm => by simp only [opdsB, opds, consOF_eq, opdB_eq, opdsB_eq r tm]

theorem partsB_eq : ∀ (l : List (Nat × Operand)) (tm : Tm), (partsB l).f tm = partsOf l tm
  | [], _ => rfl
  | (i, x) :: r, tm => by simp only [partsB, partsOf, opdB_eq, partsB_eq r tm]

theorem opdOB_eq (o : Option Operand) (tm : Tm) : (opdOB o).f tm = opdO o tm := by
  cases o with
  | none => rfl
  | some x => simp only [opdOB, opdO, opdB_eq]

/-! ### numbers -/
theorem natF_eq {α : Type} (n : Nat) (k : Nat → α) : natF n k = k n := by cases n <;> rfl
theorem intF_eq {α : Type} (n : Int) (k : Int → α) : intF n k = k n := by
  cases n with
  | ofNat m => exact natF_eq m (fun m => k (.ofNat m))
  | negSucc m => exact natF_eq m (fun m => k (.negSucc m))
theorem ikN_eq (k k' : IntKind) : Nat.beq (ikN k) (ikN k') = decide (k = k') := by cases k <;> cases k' <;> rfl
theorem wrapF_eq (k : IntKind) (n : Int) : wrapF k n = wrapq k n := by
  cases k <;> first
    | rfl
    | (cases n with
      | ofNat m => simp only [wrapF, wrapq, ikN]; show _ = _; cases Nat.ble m 9223372036854775807 <;> rfl
      | negSucc m => simp only [wrapF, wrapq, ikN]; show _ = _; cases Nat.ble m 9223372036854775807 <;> rfl)
theorem addF_eq (a b : Int) : addF a b = a + b := by cases a <;> cases b <;> rfl
theorem lebF_eq (a b : Int) : lebF a b = ileb a b := by cases a <;> cases b <;> rfl
theorem eqbF_eq (a b : Int) : eqbF a b = ieqb a b := by cases a <;> cases b <;> rfl
theorem notF_eq (b : Bool) : notF b = !b := by cases b <;> rfl

theorem cmpF_eq {f : Int → Int → Bool} {k k' : IntKind} {a b : Int} : cmpF f k k' a b = match decide (k = k') with | true => some (.v (.bool (f a b))) | false => none := by
  unfold cmpF
  rw [ikN_eq]
  cases decide (k = k') <;> rfl
theorem ariF_eq {f : Int → Int → Int} {k k' : IntKind} {a b : Int} : ariF f k k' a b = match decide (k = k') with | true => some (.v (.int k (wrapq k (f a b)))) | false => none := by
  unfold ariF
  rw [ikN_eq, intF_eq, wrapF_eq]
  cases decide (k = k') <;> rfl

theorem intB_eq (op : BinOp) (k k' : IntKind) (a b : Int) : (intB op).f k k' a b = intOp op k k' a b := by
  cases op <;> first
    | rfl
    | (simp only [intB, intOp, cmpF_eq, ariF_eq, intBin, addF_eq, lebF_eq, eqbF_eq, notF_eq]; cases decide (k = k') <;> rfl)

/-! ### views -/
theorem oInt_some {o : Option PV} {k : IntKind} {n : Int} (h : oInt o = some (k, n)) : o = some (.v (.int k n)) := by
  cases o with
  | none => cases h
  | some p => cases p with
    | v x => cases x <;> first | (cases h; rfl) | cases h
    | _ => cases h
theorem oBool_some {o : Option PV} {b : Bool} (h : oBool o = some b) : o = some (.v (.bool b)) := by
  cases o with
  | none => cases h
  | some p => cases p with
    | v x => cases x <;> first | (cases h; rfl) | cases h
    | _ => cases h

section
variable {R : Type} (T : Types)
theorem pureF_eq (next : Nx R) (hp : Hp) (o : Option PV) : pureF next hp o = match ret1 hp o with | none => none | some (p, h) => next p h := by cases o <;> rfl
theorem primF_eq (next : Nx R) (o : Option (PV × Hp)) : primF next o = match o with | none => none | some (p, h) => next p h := by
  cases o with
  | none => rfl
  | some x => rfl

theorem pickF_eq (next : Nx R) (hp : Hp) (a b c : Option PV) : pickF next hp a b c = match primPick hp a b c with | none => none | some (p, h) => next p h := by
  cases c with
  | none => rfl
  | some p => cases p with
    | v x => cases x with
      | bool y =>
        cases y
        · exact pureF_eq next hp b
        · exact pureF_eq next hp a
      | _ => rfl
    | _ => rfl

theorem binFF_eq (op : BinOp) (t : TypeId) (next : Nx R) (hp : Hp) (x y : Option PV) :
    binFF (primBin T hp op t) (intB op).f next hp x y = match primBin T hp op t x y with | none => none | some (p, h) => next p h := by
  unfold binFF
  cases hx : oInt x with
  | none => exact primF_eq next _
  | some a =>
    cases hy : oInt y with
    | none => exact primF_eq next _
    | some b =>
      obtain ⟨k, n⟩ := a
      obtain ⟨k', m⟩ := b
      rw [oInt_some hx, oInt_some hy]
      show pureF next hp ((intB op).f k k' n m) = _
      rw [intB_eq, pureF_eq]
      rfl

theorem partB_eq (t : TypeId) (cs : List PV) (off : Nat) : (partB T t).f cs off = partOf T t cs off := by
  unfold partB partOf
  cases T.get t with
  | none => rfl
  | some i =>
    simp only []
    cases i.isAgg with
    | false => exact getF_eq cs off
    | true =>
      show aggF (takeF (dropF cs off) i.size) = _
      rw [takeF_eq, dropF_eq]
      unfold cut
      simp only []
      cases takeN (cs.drop off) i.size <;> rfl

theorem loadFF_eq (t : TypeId) (next : Nx R) (hp : Hp) (x : Option PV) : loadFF (partB T t).f next hp x = match primLoad T hp t x with | none => none | some (p, h) => next p h := by
  cases x with
  | none => rfl
  | some p =>
    cases p with
    | ptr id off =>
      show pureF next hp (heldF (partB T t).f off (Al.getF hp.blks id)) = _
      rw [pureF_eq, Al.getF_eq]
      simp only [primLoad, loadAt, Hp.get]
      cases Al.get hp.blks id with
      | none => rfl
      | some b =>
        show (match ret1 hp ((partB T t).f b.cells off) with | none => none | some (p, h) => next p h) = _
        rw [partB_eq]
    | ep cs off =>
      show pureF next hp ((partB T t).f cs off) = _
      rw [pureF_eq, partB_eq]; rfl
    | _ => rfl

theorem fieldAddrB_eq (s : TypeId) (f : Nat) (next : Nx R) (hp : Hp) (x : Option PV) : (fieldAddrB T s f).f next hp x = match primFieldAddr T hp s f x with | none => none | some (p, h) => next p h := by
  unfold fieldAddrB primFieldAddr
  cases fieldOf T s f with
  | none => rfl
  | some a =>
    obtain ⟨off, ft⟩ := a
    simp only []
    cases sizeT T ft with
    | none => rfl
    | some sz =>
      simp only []
      cases Nat.ble 1 sz with
      | false => rfl
      | true =>
        cases x with
        | none => rfl
        | some p => cases p with
          | ptr id o => exact natF_eq (Nat.add o off) (fun r => next (.ptr id r) hp)
          | ep cs o => exact natF_eq (Nat.add o off) (fun r => next (.ep cs r) hp)
          | _ => rfl

theorem fieldB_eq (s : TypeId) (f : Nat) (next : Nx R) (hp : Hp) (x : Option PV) : (fieldB T s f).f next hp x = match primField T hp s f x with | none => none | some (p, h) => next p h := by
  unfold fieldB primField
  cases fieldOf T s f with
  | none => rfl
  | some a =>
    obtain ⟨off, ft⟩ := a
    simp only []
    cases x with
    | none => rfl
    | some p => cases p with
      | agg cs =>
        show pureF next hp ((partB T ft).f cs off) = _
        rw [pureF_eq, partB_eq]
      | _ => rfl

theorem oIx_none {i : Option PV} (h : oIx i = none) : (match i with | some (.v (.int _ (.ofNat n))) => some n | _ => none) = none := by
  cases i with
  | none => rfl
  | some p => cases p with
    | v x => cases x with
      | int k n => cases n with
        | ofNat n => cases h
        | negSucc n => rfl
      | _ => rfl
    | _ => rfl
theorem oIx_some {i : Option PV} {n : Nat} (h : oIx i = some n) : ∃ k, i = some (.v (.int k (.ofNat n))) := by
  cases i with
  | none => cases h
  | some p => cases p with
    | v x => cases x with
      | int k n => cases n with
        | ofNat n => cases h; exact ⟨k, rfl⟩
        | negSucc n => cases h
      | _ => cases h
    | _ => cases h

theorem epF_eq (sz : Nat) (next : Nx R) (hp : Hp) (o : Option (List PV)) :
    epF sz next hp o = match o with | none => none | some e => match Nat.beq e.length sz with | true => next (.ep e 0) hp | false => none := by
  cases o with
  | none => rfl
  | some e =>
    unfold epF
    simp only []
    rw [lenF_eq]
    cases Nat.beq e.length sz <;> rfl

theorem primIndexAddr_no {hp : Hp} {t : TypeId} (h : ∀ p n, idxAddr T t p n = none) (x i : Option PV) : primIndexAddr T hp t x i = none := by
  unfold primIndexAddr
  cases x with
  | none => rfl
  | some p =>
    simp only [h]
    split <;> rfl

theorem indexAddrB_eq (t : TypeId) (next : Nx R) (hp : Hp) (x i : Option PV) : (indexAddrB T t).f next hp x i = match primIndexAddr T hp t x i with | none => none | some (p, h) => next p h := by
  unfold indexAddrB
  cases ht : T.get t with
  | none => rw [primIndexAddr_no T (fun p n => by simp only [idxAddr, ht])]
  | some ti =>
    simp only []
    cases hs : sizeT T ti.elem with
    | none => rw [primIndexAddr_no T (fun p n => by simp only [idxAddr, ht, hs])]
    | some sz =>
      simp only []
      cases hk : Nat.beq ti.kind 1 with
      | false => exact primF_eq next _
      | true =>
        show (Option.rec (motive := fun _ => Option R) none (fun n => idxSlF sz next hp (oSv x) n) (oIx i) : Option R) = _
        cases hi : oIx i with
        | none =>
          cases x with
          | none => rfl
          | some p =>
            unfold primIndexAddr
            simp only []
            cases i with
            | none => rfl
            | some q => cases q with
              | v y => cases y with
                | int k n => cases n with
                  | ofNat n => cases hi
                  | negSucc n => rfl
                | _ => rfl
              | _ => rfl
        | some n =>
          obtain ⟨k, rfl⟩ := oIx_some hi
          cases x with
          | none => rfl
          | some p =>
            show idxSlF sz next hp (pSv p) n = _
            simp only [primIndexAddr, idxAddr, ht, hs, hk]
            cases p with
            | v y => cases y with
              | slice a l c =>
                show idxSlF sz next hp (Option.rec (motive := fun _ => Sv) (Bool.rec (motive := fun _ => Sv) .no (Bool.rec (motive := fun _ => Sv) .no .nil (Nat.beq c 0)) (Nat.beq l 0)) (fun _ => .no) a) n = _
                cases a with
                | none => cases Nat.beq l 0 <;> cases Nat.beq c 0 <;> rfl
                | some _ => rfl
              | _ => rfl
            | sl es ex =>
              show epF sz next hp (getF es n) = _
              rw [epF_eq, getF_eq]
              simp only [idxSl]
              cases es[n]? with
              | none => rfl
              | some e => simp only []; cases Nat.beq e.length sz <;> rfl
            | row id off len cap rs =>
              show (Bool.rec (motive := fun _ => Option R) none (Bool.rec (motive := fun _ => Option R) none (natF (Nat.add off (Nat.mul n sz)) fun r => next (.ptr id r) hp) (Nat.beq rs sz)) (Nat.ble (Nat.succ n) len) : Option R) = _
              simp only [idxSl]
              rw [natF_eq]
              show (Bool.rec (motive := fun _ => Option R) none (Bool.rec (motive := fun _ => Option R) none _ (Nat.beq rs sz)) (Nat.blt n len) : Option R) = _
              cases Nat.blt n len with
              | false => rfl
              | true => simp only []; cases Nat.beq rs sz <;> rfl
            | _ => rfl

theorem lenB_eq (t : TypeId) (next : Nx R) (hp : Hp) (x : Option PV) : (lenB T t).f next hp x = match primLen T hp t x with | none => none | some (p, h) => next p h := by
  unfold lenB
  cases ht : T.get t with
  | none => simp only [primLen, ht]
  | some ti =>
    simp only []
    cases hk : Nat.beq ti.kind 1 with
    | false => exact primF_eq next _
    | true =>
      cases x with
      | none => simp only [primLen, ht]; rfl
      | some p =>
        simp only [primLen, ht, hk]
        show lenFF next hp (pSv p) = _
        cases p with
        | v y => cases y with
          | slice a l c =>
            show lenFF next hp (Option.rec (motive := fun _ => Sv) (Bool.rec (motive := fun _ => Sv) .no (Bool.rec (motive := fun _ => Sv) .no .nil (Nat.beq c 0)) (Nat.beq l 0)) (fun _ => .no) a) = _
            cases a with
            | some _ => rfl
            | none =>
              cases l with
              | zero => cases c with
                | zero => rfl
                | succ c => rfl
              | succ l => cases c <;> rfl
          | _ => rfl
        | sl es ex =>
          show next (.v (.int .i64 (.ofNat (lenF es)))) hp = _
          rw [lenF_eq]; rfl
        | _ => rfl

theorem builtinB_eq (b : Builtin) (args : List Operand) (ts : List TypeId) (call : CallK R) (tm : Tm) (hp : Hp) (next : Nx R) :
    (builtinB T b args ts).f call tm hp next = match primBuiltin T b args ts hp tm with | none => none | some (p, h) => next p h := by
  cases b with
  | len =>
    rcases args with _ | ⟨x, _ | ⟨y, r⟩⟩ <;> rcases ts with _ | ⟨t, _ | ⟨u, r'⟩⟩ <;> first
      | rfl
      | (simp only [builtinB, primBuiltin, lenB_eq, opdB_eq])
  | append =>
    rcases args with _ | ⟨x, _ | ⟨y, _ | ⟨z, r⟩⟩⟩ <;> rcases ts with _ | ⟨t, _ | ⟨u, _ | ⟨v, r'⟩⟩⟩ <;> first
      | rfl
      | (simp only [builtinB, primBuiltin]
         cases h : Nat.beq t u with
         | true => simp only [primF_eq, opdB_eq]
         | false => simp only [primF_eq, opdB_eq])
  | cap =>
    rcases args with _ | ⟨x, _ | ⟨y, r⟩⟩ <;> rcases ts with _ | ⟨t, _ | ⟨u, r'⟩⟩ <;> first
      | rfl
      | (simp only [builtinB, primBuiltin, primF_eq, opdB_eq])
  | clear =>
    rcases args with _ | ⟨x, _ | ⟨y, r⟩⟩ <;> rcases ts with _ | ⟨t, _ | ⟨u, r'⟩⟩ <;> first
      | rfl
      | (simp only [builtinB, primBuiltin, primF_eq, opdB_eq])
  | copy =>
    rcases args with _ | ⟨x, _ | ⟨y, _ | ⟨z, r⟩⟩⟩ <;> rcases ts with _ | ⟨t, _ | ⟨u, _ | ⟨v, r'⟩⟩⟩ <;> first
      | rfl
      | (simp only [builtinB, primBuiltin]
         cases h : Nat.beq t u with
         | true => simp only [primF_eq, opdB_eq]
         | false => rfl)
  | unsafeSliceData =>
    rcases args with _ | ⟨x, _ | ⟨y, r⟩⟩ <;> first
      | rfl
      | (simp only [builtinB, primBuiltin, primF_eq, opdB_eq])
  | unsafeString =>
    rcases args with _ | ⟨x, _ | ⟨y, _ | ⟨z, r⟩⟩⟩ <;> rcases ts with _ | ⟨t, _ | ⟨u, _ | ⟨v, r'⟩⟩⟩ <;> first
      | rfl
      | (simp only [builtinB, primBuiltin, primF_eq, opdB_eq])
  | min => simp only [builtinB, primBuiltin, primF_eq, opdsB_eq]
  | max => simp only [builtinB, primBuiltin, primF_eq, opdsB_eq]
  | _ => rfl

theorem callL_eq (call : CallK R) (n : Nat) (hp : Hp) (next : Nx R) (o : Option (List PV)) : callL call n hp next o = callK call hp next (some (.clo n [])) o := by
  cases o with
  | none => rfl
  | some l => show call n l hp next = call n (l ++ []) hp next; rw [List.append_nil]

theorem callB_eq (f : Operand) (args : List Operand) (call : CallK R) (tm : Tm) (hp : Hp) (next : Nx R) : (callB f args).f call tm hp next = callK call hp next (opd f tm) (opds args tm) := by
  cases f with
  | func n => simp only [callB, callL_eq, opdsB_eq]; rfl
  | _ => simp only [callB, opdsB_eq, opdB_eq]

/-- what follows an operation that is wanted -/
theorem doB_eq (op : Op) (call : CallK R) (tm : Tm) (hp : Hp) (next : Nx R) : (doB T op).f call tm hp next = evDo call hp (fun _ => next) (enters op tm) (prim T op hp tm) := by
  cases op with
  | call c =>
    obtain ⟨cal, args, ts⟩ := c
    cases cal with
    | value f =>
      simp only [doB, callB_eq, enters]
      unfold callK entersOf evDo
      cases opd f tm with
      | none => rfl
      | some p => cases p with
        | clo n caps => cases opds args.toList tm <;> rfl
        | bnd n first => cases opds args.toList tm <;> rfl
        | _ => rfl
    | builtin b => simp only [doB, builtinB_eq, enters, prim]; rfl
    | invoke _ _ => rfl
  | _ => simp only [doB, pureF_eq, primF_eq, pickF_eq, binFF_eq, loadFF_eq, fieldAddrB_eq, fieldB_eq, indexAddrB_eq, opdB_eq, opdsB_eq, partsB_eq, opdOB_eq, enters, prim, evDo] <;> rfl

theorem wantF_eq (want : Bool) (skip go : Option R) (o : Option PV) : wantF want skip go (oWant o) = match wantOf want o with | none => none | some false => skip | some true => go := by
  cases o with
  | none => rfl
  | some p => cases p with
    | v x => cases x with
      | bool b => cases b <;> cases want <;> rfl
      | _ => rfl
    | _ => rfl

theorem stepR_eq (nt : Nat) (all : List Oper) (o : Oper) (call : CallK R) (tm : Tm) (hp : Hp) (next : Bool → PV → Hp → Option R) :
    (stepR T nt all o).f call tm hp next = evStep T nt all o call ⟨tm, hp⟩ next := by
  unfold stepR evStep
  cases dstOk nt o.dst with
  | false => rfl
  | true =>
    simp only [wantedP]
    cases o.guard with
    | none =>
      simp only [doB_eq]
      unfold evDo
      rfl
    | some g =>
      obtain ⟨j, want⟩ := g
      simp only []
      cases dstAt all j with
      | none => rfl
      | some d =>
        simp only [doB_eq, Al.getF_eq, wantF_eq]
        unfold evDo
        rfl

theorem stepB_eq (nt : Nat) (all : List Oper) (o : Oper) (call : CallK R) (tm : Tm) (hp : Hp) (next : Nx R) :
    (stepB T nt all o).f call tm hp next = evStep T nt all o call ⟨tm, hp⟩ (fun _ => next) := by
  unfold stepB evStep
  cases dstOk nt o.dst with
  | false => rfl
  | true =>
    simp only [wantedP]
    cases o.guard with
    | none => simp only [doB_eq]
    | some g =>
      obtain ⟨j, want⟩ := g
      simp only []
      cases dstAt all j with
      | none => rfl
      | some d => simp only [doB_eq, Al.getF_eq, wantF_eq]; rfl

theorem opsB_eq (nt : Nat) (all : List Oper) : ∀ (ops : List Oper) (call : CallK R) (tm : Tm) (hp : Hp) (k : Tm → Hp → Option R),
    (opsB T nt all ops).f call tm hp k = evOps T nt all ops call ⟨tm, hp⟩ (fun st => k st.tmps st.hp)
  | [], _, _, _, _ => rfl
  | o :: rest, call, tm, hp, k => by
    unfold opsB evOps
    cases hd : o.dst with
    | none =>
      simp only [stepB_eq]
      congr 1
      funext _ p h
      rw [opsB_eq nt all rest]; rfl
    | some d =>
      simp only [stepB_eq]
      congr 1
      funext _ p h
      rw [opsB_eq nt all rest]; rfl

theorem logB_eq (i m : Nat) (op : Op) (lg : Lg) (tm : Tm) (hp h : Hp) (p : PV) (run : Bool) : ranF ((logB T i m op).f lg tm hp h p) lg run = logOf T op i m lg ⟨tm, hp⟩ run h p := by
  cases run with
  | false => rfl
  | true =>
    show (logB T i m op).f lg tm hp h p = _
    cases op with
    | call c =>
      obtain ⟨cal, args, ts⟩ := c
      cases cal with
      | builtin b => cases b <;> rfl
      | _ => rfl
    | load t x =>
      simp only [logB, logOf, opKind, loadArg, opdB_eq]
      first | rfl | (congr 1; done) | (congr 1; cases opd x tm <;> rfl)
    | _ => rfl

theorem logF_eq (lg : Option Lg) (next : Lg → Option R) : logF lg next = logK lg next := by cases lg <;> rfl

theorem opsDB_eq (nt : Nat) (all : List Oper) : ∀ (L : List (Nat × Nat)) (lg : Lg) (call : CallK R) (tm : Tm) (hp : Hp) (k : Tm → Hp → Option R),
    (opsDB T nt all L).f lg call tm hp k = evOpsD T nt all L lg call ⟨tm, hp⟩ (fun st => k st.tmps st.hp)
  | [], _, _, _, _, _ => rfl
  | (i, m) :: L, lg, call, tm, hp, k => by
    unfold opsDB evOpsD
    cases all[i]? with
    | none => rfl
    | some o =>
      simp only []
      cases hd : o.dst with
      | none =>
        simp only [stepR_eq]
        congr 1
        funext run p h
        rw [logB_eq, logF_eq]
        congr 1
        funext lg'
        rw [opsDB_eq nt all L]; rfl
      | some d =>
        simp only [stepR_eq]
        congr 1
        funext run p h
        rw [logB_eq, logF_eq]
        congr 1
        funext lg'
        rw [opsDB_eq nt all L]; rfl

theorem sweptB_eq (kl : Option (List Nat)) (tm : Tm) (hp : Hp) : (sweptB kl).f tm hp = swept kl tm hp := by cases kl <;> rfl
theorem keptB_eq (ks kl : Option (List Nat)) (k : KF R) (st : St) : (keptB ks kl).f k st.tmps st.hp = kept ks kl (fun ex st => k ex st.tmps st.hp) st := by
  cases ks with
  | none => simp only [keptB, kept, sweptB_eq]
  | some l => simp only [keptB, kept, Al.keepF_eq, sweptB_eq]

theorem condF_eq (a b : Option R) (o : Option PV) : condF a b o = match o with | some (.v (.bool true)) => a | some (.v (.bool false)) => b | _ => none := by
  cases o with
  | none => rfl
  | some p => cases p with
    | v x => cases x with
      | bool y => cases y <;> rfl
      | _ => rfl
    | _ => rfl

abbrev KF.of (k : KF R) : Ex → St → Option R := fun ex st => k ex st.tmps st.hp
abbrev RF.of (rc : RF R) : RC R := fun fi c st K => rc fi c st.tmps st.hp (fun ex tm hp => K ex ⟨tm, hp⟩)

theorem seqF_eq (next : Tm → Hp → Option R) (k : KF R) : KF.of (seqF next k) = seqK (fun st => next st.tmps st.hp) (KF.of k) := by
  funext ex st
  cases ex <;> rfl
theorem blockF_eq (id : Nat) (k : KF R) : KF.of (blockF id k) = blockK id (KF.of k) := by
  funext ex st
  cases ex with
  | exit i =>
    show (Bool.rec (motive := fun _ => Tm → Hp → Option R) (k (.exit i)) (k .normal) (Nat.beq i id) : Tm → Hp → Option R) st.tmps st.hp = _
    simp only [blockK]
    cases Nat.beq i id <;> rfl
  | _ => rfl

theorem codeB_eq (fi : FI) : ∀ (c : Code) (call : CallK R) (rc : RF R) (tm : Tm) (hp : Hp) (k : KF R),
    (codeB T fi c).f call rc tm hp k = evC T fi c call (RF.of rc) ⟨tm, hp⟩ (KF.of k) := by
  intro c
  induction c with
  | region id ops draw =>
    intro call rc tm hp k
    simp only [codeB, evC]
    cases draw with
    | false =>
      simp only [opsB_eq]
      congr 1
      funext st
      exact keptB_eq _ _ k st
    | true =>
      simp only []
      cases fi.sched.get id with
      | none => rfl
      | some L =>
        simp only [opsDB_eq]
        congr 1
        funext st
        exact keptB_eq _ _ k st
  | seq a b iha ihb =>
    intro call rc tm hp k
    simp only [codeB, evC, iha, seqF_eq, ihb]
  | cond c x y ihx ihy =>
    intro call rc tm hp k
    simp only [codeB, evC, ihx, ihy, condF_eq, opdB_eq]; rfl
  | block id c ih =>
    intro call rc tm hp k
    simp only [codeB, evC, ih, blockF_eq]
  | loop c ih =>
    intro call rc tm hp k
    simp only [codeB, evC, ih, seqF_eq]
  | _ => intro call rc tm hp k; rfl

theorem resB_eq (fn : Func) (tm : Tm) (hp : Hp) : (resB T fn).f tm hp = resOf T fn ⟨tm, hp⟩ := by
  unfold resB
  split
  · rename_i t ht
    simp only [resOf, ht, resVars, resVar, Al.getF_eq]
    cases Al.get tm t <;> rfl
  · rfl

theorem endF_eq (fn : Func) (k : Nx R) : KF.of (endF (resB T fn).f k) = endK T fn k := by
  funext ex st
  cases ex with
  | exit i => rfl
  | _ =>
    show pureF k st.hp ((resB T fn).f st.tmps st.hp) = _
    rw [resB_eq, pureF_eq]
    simp only [endK]
    show _ = match resOf T fn st with | none => none | some p => k p st.hp
    cases resOf T fn st <;> rfl

theorem bodyB_eq (fi : FI) (rc : RF R) (l : List PV) (hp : Hp) (k : Nx R) : (bodyB T fi).f rc l hp k = bodyF T fi (RF.of rc) l hp k := by
  unfold bodyB bodyF
  cases fi.fn.body with
  | none => rfl
  | some c =>
    simp only []
    rw [lenF_eq, initF_eq]
    cases Nat.ble l.length fi.fn.ntmps with
    | false => rfl
    | true =>
      show rc fi c (initT 0 l) hp (endF (resB T fi.fn).f k) = rc fi c (initT 0 l) hp (fun ex tm hp => endK T fi.fn k ex ⟨tm, hp⟩)
      rw [← endF_eq]

end
/-! ### values that need no freezing -/
theorem wtN (l : List PV) : (PV.rec_1 (motive_1 := fun _ => Nat) (motive_2 := fun _ => Nat) (motive_3 := fun _ => Unit) (fun _ => 1) (fun _ n => Nat.succ n) (fun _ n => Nat.succ n) (fun _ _ _ => 1) (fun _ _ _ _ _ => 1000) (fun _ _ => 1000) (fun _ _ _ => 1000) (fun _ _ _ => 1000) 1 (fun _ => 1) (fun _ => 1) (fun _ => 1000) 1000 (fun _ _ _ => 1000) 1 (fun _ _ a b => Nat.add (Nat.succ a) b) () (fun _ _ _ _ => ()) l : Nat) = wtL l := by
  induction l with
  | nil => rfl
  | cons p l ih => exact congrArg (Nat.add (Nat.succ (wt p))) ih
theorem wt_agg (cs : List PV) : wt (.agg cs) = Nat.succ (wtL cs) := congrArg Nat.succ (wtN cs)
theorem wt_tup (cs : List PV) : wt (.tup cs) = Nat.succ (wtL cs) := congrArg Nat.succ (wtN cs)

mutual
theorem freeze_wt : ∀ (p : PV) (n : Nat) (hp : Hp), wt p < n → wt p ≤ 999 → freeze n hp p = some (p, hp)
  | .v _, 0, _, h, _ => absurd h (Nat.not_lt_zero _)
  | .v _, _ + 1, _, _, _ => rfl
  | .un, 0, _, h, _ => absurd h (Nat.not_lt_zero _)
  | .un, _ + 1, _, _, _ => rfl
  | .sym _, 0, _, h, _ => absurd h (Nat.not_lt_zero _)
  | .sym _, _ + 1, _, _, _ => rfl
  | .unk _, 0, _, h, _ => absurd h (Nat.not_lt_zero _)
  | .unk _, _ + 1, _, _, _ => rfl
  | .sl _ _, 0, _, h, _ => absurd h (Nat.not_lt_zero _)
  | .sl _ _, _ + 1, _, _, _ => rfl
  | .agg _, 0, _, h, _ => absurd h (Nat.not_lt_zero _)
  | .agg cs, n + 1, hp, h, h' => by
    have e : wt (.agg cs) = Nat.succ (wtL cs) := wt_agg cs
    rw [e] at h h'
    simp only [freeze, freezeL_wt cs n hp (by omega) (by omega)]
  | .tup _, 0, _, h, _ => absurd h (Nat.not_lt_zero _)
  | .tup cs, n + 1, hp, h, h' => by
    have e : wt (.tup cs) = Nat.succ (wtL cs) := wt_tup cs
    rw [e] at h h'
    simp only [freeze, freezeL_wt cs n hp (by omega) (by omega)]
  | .row _ _ _ _ _, _, _, _, h => by exact absurd h (by show ¬ (1000 ≤ 999); omega)
  | .ptr _ _, _, _, _, h => by exact absurd h (by show ¬ (1000 ≤ 999); omega)
  | .ep _ _, _, _, _, h => by exact absurd h (by show ¬ (1000 ≤ 999); omega)
  | .clo _ _, _, _, _, h => by exact absurd h (by show ¬ (1000 ≤ 999); omega)
  | .bnd _ _, _, _, _, h => by exact absurd h (by show ¬ (1000 ≤ 999); omega)
  | .mp _, _, _, _, h => by exact absurd h (by show ¬ (1000 ≤ 999); omega)
  | .top, _, _, _, h => by exact absurd h (by show ¬ (1000 ≤ 999); omega)
theorem freezeL_wt : ∀ (l : List PV) (n : Nat) (hp : Hp), wtL l < n → wtL l ≤ 999 → freezeL n hp l = some (l, hp)
  | [], 0, _, h, _ => absurd h (Nat.not_lt_zero _)
  | [], _ + 1, _, _, _ => rfl
  | _ :: _, 0, _, h, _ => absurd h (Nat.not_lt_zero _)
  | p :: l, n + 1, hp, h, h' => by
    have e : wtL (p :: l) = Nat.succ (wt p) + wtL l := rfl
    rw [e] at h h'
    simp only [freezeL, freeze_wt p n hp (by omega) (by omega), freezeL_wt l n hp (by omega) (by omega)]
end

theorem frzL_eq (hp : Hp) (l : List PV) : frzL hp l = freezeL deepN hp l := by
  unfold frzL
  cases h : Nat.ble (wtL l) 999 with
  | false => rfl
  | true =>
    have h := Nat.le_of_ble_eq_true h
    exact (freezeL_wt l deepN hp (by unfold deepN; omega) h).symm

theorem frz_eq (hp : Hp) (p : PV) : frz hp p = freeze deepN hp p := by
  unfold frz
  cases h : Nat.ble (wt p) 999 with
  | false => rfl
  | true =>
    have h := Nat.le_of_ble_eq_true h
    exact (freeze_wt p deepN hp (by unfold deepN; omega) h).symm

section
variable {R : Type} (T : Types)
theorem dataKF_eq (k : Nx R) (hp1 : Hp) : dataKF k hp1 = dataK k hp1 := by
  funext p h
  unfold dataKF dataK
  rw [frz_eq]
  cases freeze deepN h p <;> rfl

theorem ownB_eq (fi : FI) (rc : RF R) (l : List PV) (hp : Hp) (k : Nx R) : (ownB T fi).f rc l hp k = ownF T fi (RF.of rc) l hp k := by
  unfold ownB ownF
  cases fi.frz with
  | false => exact bodyB_eq T fi rc l hp k
  | true =>
    show (bodyB T fi).f rc l hp (frzKF k) = bodyF T fi (RF.of rc) l hp (frzK k)
    rw [bodyB_eq]
    congr 1
    funext p h
    unfold frzKF frzK
    rw [frz_eq]
    cases freeze deepN h p <;> rfl

theorem calleeB_eq (FT : Fns) (O : Orc) (f : Nat) (rc : RF R) : (calleeB T FT O f).f rc = callF T FT O (RF.of rc) f := by
  unfold calleeB callF
  cases FT.get f with
  | none =>
    funext l hp k
    have : (frzL : Hp → List PV → Option (List PV × Hp)) = freezeL deepN := by funext hp l; exact frzL_eq hp l
    simp only [this]
  | some fi =>
    simp only []
    cases fi.data with
    | false =>
      cases fi.mix with
      | false =>
        simp only []
        cases fi.fn.body with
        | some _ => funext l hp k; exact ownB_eq T fi rc l hp k
        | none => rfl
      | true =>
        funext l hp k
        simp only [frzL_eq, ownB_eq]
        cases l.any headUnk <;> rfl
    | true =>
      funext l hp k
      simp only [frzL_eq, callD]
      cases freezeL deepN hp l with
      | none => rfl
      | some x =>
        show (bodyB T fi).f rc x.1 ⟨[], 0, []⟩ (dataKF k x.2) = _
        rw [bodyB_eq, dataKF_eq]

theorem runF_eq (FT : Fns) (O : Orc) : ∀ n, RF.of (runF (R := R) T FT O n) = run T FT O n
  | 0 => rfl
  | n + 1 => by
    funext fi c st K
    show (codeB T fi c).f (fun f => (calleeB T FT O f).f (runF T FT O n)) (runF T FT O n) st.tmps st.hp (fun ex tm hp => K ex ⟨tm, hp⟩) = _
    rw [codeB_eq, runF_eq FT O n]
    simp only [run]
    congr 1
    funext f
    rw [calleeB_eq, runF_eq FT O n]

theorem comesF_eq (FT : Fns) (B : Book) (n : Nat) (fi : FI) (ds : List PV) (q : PV) : comesF T FT B n fi ds q = comes T FT B n fi ds q := by
  unfold comesF comes
  have h : dataF ((bodyB (R := PV) T fi).f (runF T FT (ask B) n)) (fun p _ => some p) (some (ds, ⟨[], 0, []⟩)) = callD (R := PV) T fi (run T FT (ask B) n) (fun p _ => some p) (some (ds, ⟨[], 0, []⟩)) := by
    show (bodyB T fi).f (runF T FT (ask B) n) ds ⟨[], 0, []⟩ (dataKF _ ⟨[], 0, []⟩) = _
    rw [bodyB_eq, dataKF_eq, runF_eq]
    rfl
  rw [h] <;> rfl
end

theorem known_ofF [Env] {P : Program} {T : Types} (hT : TOk P T) (hm : P.follows .mixedOrders = true) {FT : Fns} (hF : FTOk P FT) {B : Book} (hB : BookOk P B) {f : Nat} {fi : FI} (hf : FIOk P f fi) {n : Nat} {ds : List PV} {q : PV}
    (h : comesF T FT B n fi ds q = true) : Known P f ds q :=
  known_of hT hm hF hB hf ((comesF_eq T FT B n fi ds q).symm.trans h)

theorem comesSF_eq (T : Types) (FT : Fns) (B : Book) (n : Nat) (fi : FI) (ty : Nat) (cs ds : List PV) (q : PV) (cs' : List PV) : comesSF T FT B n fi ty cs ds q cs' = comesS T FT B n fi ty cs ds q cs' := by
  unfold comesSF comesS
  rw [bodyB_eq, runF_eq] <;> rfl
theorem knownS_ofF [Env] {P : Program} {T : Types} (hT : TOk P T) (hm : P.follows .mixedOrders = true) {FT : Fns} (hF : FTOk P FT) {B : Book} (hB : BookOk P B) {f : Nat} {fi : FI} (hf : FIOk P f fi) {n ty : Nat} {cs ds : List PV} {q : PV} {cs' : List PV}
    (h : comesSF T FT B n fi ty cs ds q cs' = true) : KnownS P f ty cs ds q cs' :=
  knownS_of hT hm hF hB hf ((comesSF_eq T FT B n fi ty cs ds q cs').symm.trans h)
end Go.Ev
