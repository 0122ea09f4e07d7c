/- Unknown cells, put in: what is known with them holds for all that they may be. -/
import Derived.Test.YtmlnfoabpcccnaaGreatEvBc
import Derived.Test.YtmlnfoabpcccnaaGreatEvBi
import Derived.Test.YtmlnfoabpcccnaaGreatEvBj
set_option linter.all false
/- Unknown cells, put in: what is known with them holds for all that they may be. -/
namespace Go.Ev
mutual
def sub (σ : Nat → PV) : PV → PV
  | .unk n => σ n
  | .agg cs => .agg (subL σ cs)
  | .tup cs => .tup (subL σ cs)
  | .sl es ex => .sl (subE σ es) ex
  | .ep cs o => .ep (subL σ cs) o
  | .clo f cs => .clo f (subL σ cs)
  | .bnd f cs => .bnd f (subL σ cs)
  | .v x => .v x
  | .row a b c d e => .row a b c d e
  | .ptr a b => .ptr a b
  | .un => .un
  | .sym n => .sym n
  | .mp n => .mp n
  | .top => .top
def subL (σ : Nat → PV) : List PV → List PV
  | [] => []
  | c :: cs => sub σ c :: subL σ cs
def subE (σ : Nat → PV) : List (List PV) → List (List PV)
  | [] => []
  | e :: es => subL σ e :: subE σ es
end
mutual
/-- no unknown cell in it -/
def clean : PV → Bool
  | .unk _ => false
  | .agg cs => cleanL cs
  | .tup cs => cleanL cs
  | .sl es _ => cleanE es
  | .ep cs _ => cleanL cs
  | .clo _ cs => cleanL cs
  | .bnd _ cs => cleanL cs
  | _ => true
def cleanL : List PV → Bool
  | [] => true
  | c :: cs => clean c && cleanL cs
def cleanE : List (List PV) → Bool
  | [] => true
  | e :: es => cleanL e && cleanE es
end
theorem subL_get (σ : Nat → PV) : ∀ (cs : List PV) (i : Nat), (subL σ cs)[i]? = (cs[i]?).map (sub σ)
  | [], i => by simp [subL]
  | c :: cs, 0 => by simp [subL]
  | c :: cs, i + 1 => by simp [subL, subL_get σ cs i]
theorem subL_len (σ : Nat → PV) : ∀ (cs : List PV), (subL σ cs).length = cs.length
  | [] => rfl
  | c :: cs => by simp [subL, subL_len σ cs]
theorem subE_get (σ : Nat → PV) : ∀ (cs : List (List PV)) (i : Nat), (subE σ cs)[i]? = (cs[i]?).map (subL σ)
  | [], i => by simp [subE]
  | c :: cs, 0 => by simp [subE]
  | c :: cs, i + 1 => by simp [subE, subE_get σ cs i]
theorem subE_len (σ : Nat → PV) : ∀ (cs : List (List PV)), (subE σ cs).length = cs.length
  | [] => rfl
  | c :: cs => by simp [subE, subE_len σ cs]
theorem cleanL_get : ∀ {cs : List PV} {i : Nat} {c : PV}, cleanL cs = true → cs[i]? = some c → clean c = true
  | [], i, c, h, e => by simp at e
  | d :: cs, 0, c, h, e => by simp at e; subst e; simp [cleanL] at h; exact h.1
  | d :: cs, i + 1, c, h, e => by simp [cleanL] at h; exact cleanL_get h.2 (by simpa using e)
theorem cleanE_get : ∀ {cs : List (List PV)} {i : Nat} {c : List PV}, cleanE cs = true → cs[i]? = some c → cleanL c = true
  | [], i, c, h, e => by simp at e
  | d :: cs, 0, c, h, e => by simp at e; subst e; simp [cleanE] at h; exact h.1
  | d :: cs, i + 1, c, h, e => by simp [cleanE] at h; exact cleanE_get h.2 (by simpa using e)
mutual
theorem sub_clean (σ : Nat → PV) : ∀ (p : PV), clean p = true → sub σ p = p
  | .unk _, h => by simp [clean] at h
  | .agg cs, h => by rw [sub, subL_clean σ cs (by simpa [clean] using h)]
  | .tup cs, h => by rw [sub, subL_clean σ cs (by simpa [clean] using h)]
  | .sl es _, h => by rw [sub, subE_clean σ es (by simpa [clean] using h)]
  | .ep cs _, h => by rw [sub, subL_clean σ cs (by simpa [clean] using h)]
  | .clo _ cs, h => by rw [sub, subL_clean σ cs (by simpa [clean] using h)]
  | .bnd _ cs, h => by rw [sub, subL_clean σ cs (by simpa [clean] using h)]
  | .v _, _ => by rw [sub]
  | .row .., _ => by rw [sub]
  | .ptr .., _ => by rw [sub]
  | .un, _ => by rw [sub]
  | .sym _, _ => by rw [sub]
  | .mp _, _ => by rw [sub]
  | .top, _ => by rw [sub]
theorem subL_clean (σ : Nat → PV) : ∀ (cs : List PV), cleanL cs = true → subL σ cs = cs
  | [], _ => rfl
  | c :: cs, h => by simp [cleanL] at h; rw [subL, sub_clean σ c h.1, subL_clean σ cs h.2]
theorem subE_clean (σ : Nat → PV) : ∀ (es : List (List PV)), cleanE es = true → subE σ es = es
  | [], _ => rfl
  | e :: es, h => by simp [cleanE] at h; rw [subE, subL_clean σ e h.1, subE_clean σ es h.2]
end
theorem cellOk_sub {σ : Nat → PV} (hσ : ∀ n, cellOk (σ n) = true) (p : PV) : cellOk (sub σ p) = cellOk p := by
  cases p <;> simp [sub, cellOk]
  exact hσ _

section
variable {w : World}
/-- one way: from E to E', where unknown cells are told of by u -/
theorem VR_to {E E' : Env} (hv : ∀ n, @Env.val E n = @Env.val E' n) {σ : Nat → PV} (hσ : ∀ n, cellOk (σ n) = true) 
    (hu : ∀ n F M y, @VR E w F M (.unk n) y → @VR E' w F M (σ n) y) :
    ∀ {F M p y}, @VR E w F M p y → @VR E' w F M (sub σ p) y := by
  intro F M p y h
  induction h with
  | v hx => rw [sub]; exact .v hx
  | agg hl hc hr ih =>
    rw [sub]
    refine .agg (by rw [subL_len]; exact hl) (fun i c hi => ?_) (fun i c y h1 h2 => ?_)
    · rw [subL_get] at hi
      obtain ⟨d, hd, rfl⟩ := Option.map_eq_some_iff.1 hi
      rw [cellOk_sub hσ]; exact hc i d hd
    · rw [subL_get] at h1
      obtain ⟨d, hd, rfl⟩ := Option.map_eq_some_iff.1 h1
      exact ih i d y hd h2
  | tup hl hr ih =>
    rw [sub]
    refine .tup (by rw [subL_len]; exact hl) (fun i c y h1 h2 => ?_)
    rw [subL_get] at h1
    obtain ⟨d, hd, rfl⟩ := Option.map_eq_some_iff.1 h1
    exact ih i d y hd h2
  | clo hl hr ih =>
    rw [sub]
    refine .clo (by rw [subL_len]; exact hl) (fun i c y h1 h2 => ?_)
    rw [subL_get] at h1
    obtain ⟨d, hd, rfl⟩ := Option.map_eq_some_iff.1 h1
    exact ih i d y hd h2
  | bnd hl hr ih =>
    rw [sub]
    refine .bnd (by rw [subL_len]; exact hl) (fun i c y h1 h2 => ?_)
    rw [subL_get] at h1
    obtain ⟨d, hd, rfl⟩ := Option.map_eq_some_iff.1 h1
    exact ih i d y hd h2
  | un => rw [sub]; exact .un
  | top => rw [sub]; exact .top
  | mp h => rw [sub]; exact .mp h
  | sym => rw [sub, hv]; exact .sym
  | unk h _ => rw [sub]; exact hu _ _ _ _ (@VR.unk E _ _ _ _ _ h)
  | ptr h => rw [sub]; exact .ptr h
  | row h h0 h1 h2 h3 => rw [sub]; exact .row h h0 h1 h2 h3
  | sl h1 h2 h3 h4 h5 ih =>
    rw [sub]
    rename_i M0 es ex b o cap sz f
    have hlen := subE_len σ es
    rw [← hlen]
    refine .sl (f := f) (sz := sz) (by rw [hlen]; exact h1) (by rw [hlen]; exact h2) (fun i e hi => ?_) (fun i j e c hi hj => ?_) (fun i j e c hi hj => ?_)
    · rw [subE_get] at hi
      obtain ⟨d, hd, rfl⟩ := Option.map_eq_some_iff.1 hi
      rw [subL_len]; exact h3 i d hd
    · rw [subE_get] at hi
      obtain ⟨d, hd, rfl⟩ := Option.map_eq_some_iff.1 hi
      rw [subL_get] at hj
      obtain ⟨c', hc, rfl⟩ := Option.map_eq_some_iff.1 hj
      rw [cellOk_sub hσ]
      exact h4 i j d c' hd hc
    · rw [subE_get] at hi
      obtain ⟨d, hd, rfl⟩ := Option.map_eq_some_iff.1 hi
      rw [subL_get] at hj
      obtain ⟨c', hc, rfl⟩ := Option.map_eq_some_iff.1 hj
      exact ih i j d c' hd hc
  | ep h4 h5 ih =>
    rw [sub]
    rename_i f
    refine .ep (f := f) (fun j c hj => ?_) (fun j c hj => ?_)
    · rw [subL_get] at hj
      obtain ⟨c', hc, rfl⟩ := Option.map_eq_some_iff.1 hj
      rw [cellOk_sub hσ]
      exact h4 j c' hc
    · rw [subL_get] at hj
      obtain ⟨c', hc, rfl⟩ := Option.map_eq_some_iff.1 hj
      exact ih j c' hc

/-- the same environment with other unknown cells -/
abbrev Env.put (E : Env) (σ : Nat → PV) (h : ∀ n, (∃ x, σ n = .v x) ∨ ∃ es ex, σ n = .sl es ex) : Env := ⟨E.str, E.int, E.rem, σ, h⟩
theorem form_cell {p : PV} (h : (∃ x, p = .v x) ∨ ∃ es ex, p = .sl es ex) : cellOk p = true := by
  rcases h with ⟨x, rfl⟩ | ⟨es, ex, rfl⟩ <;> rfl

theorem VR_clean {E E' : Env} (hv : ∀ n, @Env.val E n = @Env.val E' n) {F M p y} (hp : clean p = true) (h : @VR E w F M p y) : @VR E' w F M p y := by
  induction h with
  | v hx => exact .v hx
  | agg hl hc hr ih => exact .agg hl hc fun i c y h1 h2 => ih i c y h1 h2 (cleanL_get (by simpa [clean] using hp) h1)
  | tup hl hr ih => exact .tup hl fun i c y h1 h2 => ih i c y h1 h2 (cleanL_get (by simpa [clean] using hp) h1)
  | clo hl hr ih => exact .clo hl fun i c y h1 h2 => ih i c y h1 h2 (cleanL_get (by simpa [clean] using hp) h1)
  | bnd hl hr ih => exact .bnd hl fun i c y h1 h2 => ih i c y h1 h2 (cleanL_get (by simpa [clean] using hp) h1)
  | un => exact .un
  | top => exact .top
  | mp h => exact .mp h
  | sym => rw [hv]; exact .sym
  | unk h _ => simp [clean] at hp
  | ptr h => exact .ptr h
  | row h h0 h1 h2 h3 => exact .row h h0 h1 h2 h3
  | sl h1 h2 h3 h4 h5 ih => exact .sl h1 h2 h3 h4 fun i j e c hi hj => ih i j e c hi hj (cleanL_get (cleanE_get (by simpa [clean] using hp) hi) hj)
  | ep h4 h5 ih => exact .ep h4 fun j c hj => ih j c hj (cleanL_get (by simpa [clean] using hp) hj)

mutual
theorem VR_from {E' E : Env} (hv : ∀ n, @Env.val E n = @Env.val E' n) {σ : Nat → PV} (hσ : ∀ n, cellOk (σ n) = true)
    (hu : ∀ n F M y, @VR E' w F M (σ n) y → @VR E w F M (.unk n) y) :
    ∀ (p : PV) {F M y}, @VR E' w F M (sub σ p) y → @VR E w F M p y
  | .unk n, F, M, y, h => by rw [sub] at h; exact hu _ _ _ _ h
  | .agg cs, F, M, y, h => by
    rw [sub] at h
    cases h with
    | agg hl hc hr =>
      refine .agg (by rw [subL_len] at hl; exact hl) (fun i c hi => ?_) (fun i c y h1 h2 => ?_)
      · rw [← cellOk_sub hσ]; exact hc i _ (by rw [subL_get, hi]; rfl)
      · exact VRL_from hv hσ hu cs c (List.mem_of_getElem? h1) (hr i _ y (by rw [subL_get, h1]; rfl) h2)
  | .tup cs, F, M, y, h => by
    rw [sub] at h
    cases h with
    | tup hl hr =>
      refine .tup (by rw [subL_len] at hl; exact hl) (fun i c y h1 h2 => ?_)
      exact VRL_from hv hσ hu cs c (List.mem_of_getElem? h1) (hr i _ y (by rw [subL_get, h1]; rfl) h2)
  | .clo f cs, F, M, y, h => by
    rw [sub] at h
    cases h with
    | clo hl hr =>
      refine .clo (by rw [subL_len] at hl; exact hl) (fun i c y h1 h2 => ?_)
      exact VRL_from hv hσ hu cs c (List.mem_of_getElem? h1) (hr i _ y (by rw [subL_get, h1]; rfl) h2)
  | .bnd f cs, F, M, y, h => by
    rw [sub] at h
    cases h with
    | bnd hl hr =>
      refine .bnd (by rw [subL_len] at hl; exact hl) (fun i c y h1 h2 => ?_)
      exact VRL_from hv hσ hu cs c (List.mem_of_getElem? h1) (hr i _ y (by rw [subL_get, h1]; rfl) h2)
  | .sl es ex, F, M, y, h => by
    rw [sub] at h
    generalize hss : subE σ es = ss at h
    cases h with
    | sl h1 h2 h3 h4 h5 =>
      rename_i b o cap sz f
      subst hss
      rw [subE_len] at *
      refine .sl (f := f) (sz := sz) h1 h2 (fun i e hi => ?_) (fun i j e c hi hj => ?_) (fun i j e c hi hj => ?_)
      · have := h3 i (subL σ e) (by rw [subE_get, hi]; rfl)
        rwa [subL_len] at this
      · have := h4 i j (subL σ e) (sub σ c) (by rw [subE_get, hi]; rfl) (by rw [subL_get, hj]; rfl)
        rw [cellOk_sub hσ] at this
        exact this
      · exact VRE_from hv hσ hu es e (List.mem_of_getElem? hi) c (List.mem_of_getElem? hj) (h5 i j (subL σ e) (sub σ c) (by rw [subE_get, hi]; rfl) (by rw [subL_get, hj]; rfl))
  | .ep cs o, F, M, y, h => by
    rw [sub] at h
    cases h with
    | ep h4 h5 =>
      rename_i f
      refine .ep (f := f) (fun j c hj => ?_) (fun j c hj => ?_)
      · have := h4 j (sub σ c) (by rw [subL_get, hj]; rfl)
        rw [cellOk_sub hσ] at this
        exact this
      · exact VRL_from hv hσ hu cs c (List.mem_of_getElem? hj) (h5 j (sub σ c) (by rw [subL_get, hj]; rfl))
  | .v _, F, M, y, h => by rw [sub] at h; cases h with | v hx => exact .v hx
  | .row .., F, M, y, h => by rw [sub] at h; cases h with | row h h0 h1 h2 h3 => exact .row h h0 h1 h2 h3
  | .ptr .., F, M, y, h => by rw [sub] at h; cases h with | ptr h => exact .ptr h
  | .un, F, M, y, h => by rw [sub] at h; cases h; exact .un
  | .sym _, F, M, y, h => by rw [sub] at h; cases h; rw [← hv]; exact .sym
  | .mp _, F, M, y, h => by rw [sub] at h; cases h with | mp h => exact .mp h
  | .top, F, M, y, h => by rw [sub] at h; cases h; exact .top
theorem VRL_from {E' E : Env} (hv : ∀ n, @Env.val E n = @Env.val E' n) {σ : Nat → PV} (hσ : ∀ n, cellOk (σ n) = true)
    (hu : ∀ n F M y, @VR E' w F M (σ n) y → @VR E w F M (.unk n) y) :
    ∀ (cs : List PV) (c : PV), c ∈ cs → ∀ {F M y}, @VR E' w F M (sub σ c) y → @VR E w F M c y
  | [], c, hc, _, _, _, _ => by simp at hc
  | d :: cs, c, hc, F, M, y, h => by
    rcases List.mem_cons.1 hc with e | hc
    · rw [e] at h ⊢; exact VR_from hv hσ hu d h
    · exact VRL_from hv hσ hu cs c hc h
theorem VRE_from {E' E : Env} (hv : ∀ n, @Env.val E n = @Env.val E' n) {σ : Nat → PV} (hσ : ∀ n, cellOk (σ n) = true)
    (hu : ∀ n F M y, @VR E' w F M (σ n) y → @VR E w F M (.unk n) y) :
    ∀ (es : List (List PV)) (e : List PV), e ∈ es → ∀ (c : PV), c ∈ e → ∀ {F M y}, @VR E' w F M (sub σ c) y → @VR E w F M c y
  | [], e, he, c, hc, _, _, _, _ => by simp at he
  | d :: es, e, he, c, hc, F, M, y, h => by
    rcases List.mem_cons.1 he with g | he
    · rw [g] at hc; exact VRL_from hv hσ hu d c hc h
    · exact VRE_from hv hσ hu es e he c hc h
end
end

/-- what may stand for an unknown cell -/
structure Fit (σ : Nat → PV) : Prop where
  form : ∀ n, (∃ x, σ n = .v x) ∨ ∃ es ex, σ n = .sl es ex
  clean : ∀ n, clean (σ n) = true

theorem VR_form_any [Env] {w : World} {F : Fz} {M M' : Mp} {p : PV} {y : Value} (hp : (∃ x, p = .v x) ∨ ∃ es ex, p = .sl es ex) (h : VR w F M p y) : VR w F M' p y := by
  rcases hp with ⟨x, rfl⟩ | ⟨es, ex, rfl⟩
  · cases h with | v hx => exact .v hx
  · cases h with | sl h1 h2 h3 h4 h5 => exact .sl h1 h2 h3 h4 h5

theorem unk_to {E : Env} {σ : Nat → PV} (hσ : Fit σ) {w : World} (n : Nat) (F : Fz) (M : Mp) (y : Value) (h : @VR (E.put σ hσ.form) w F M (.unk n) y) : @VR E w F M (σ n) y := by
  cases h with
  | unk h => exact VR_form_any (hσ.form n) (VR_clean (E := E.put σ hσ.form) (E' := E) (fun _ => rfl) (hσ.clean n) h)
theorem unk_from {E : Env} {σ : Nat → PV} (hσ : Fit σ) {w : World} (n : Nat) (F : Fz) (M : Mp) (y : Value) (h : @VR E w F M (σ n) y) : @VR (E.put σ hσ.form) w F M (.unk n) y :=
  @VR.unk (E.put σ hσ.form) _ _ _ _ _ (@VR_form_any (E.put σ hσ.form) _ _ _ _ _ _ (hσ.form n) (VR_clean (E := E) (E' := E.put σ hσ.form) (fun _ => rfl) (hσ.clean n) h))

theorem VRs_sub {E : Env} {σ : Nat → PV} (hσ : Fit σ) {w : World} {F : Fz} {M : Mp} {ds : List PV} {ys : List Value} :
    @VRs (E.put σ hσ.form) w F M ds ys ↔ @VRs E w F M (subL σ ds) ys := by
  have hc := fun n => form_cell (hσ.form n)
  constructor
  · intro h
    refine ⟨by rw [subL_len]; exact h.1, fun i c y h1 h2 => ?_⟩
    rw [subL_get] at h1
    obtain ⟨d, hd, rfl⟩ := Option.map_eq_some_iff.1 h1
    exact VR_to (E := E.put σ hσ.form) (E' := E) (fun _ => rfl) hc (unk_to hσ) (h.2 i d y hd h2)
  · intro h
    refine ⟨by have := h.1; rw [subL_len] at this; exact this, fun i c y h1 h2 => ?_⟩
    exact VR_from (E := E.put σ hσ.form) (E' := E) (fun _ => rfl) hc (unk_from hσ) c (h.2 i _ y (by rw [subL_get, h1]; rfl) h2)

/-- a fact with unknown cells is one with what stands there -/
theorem Known.sub {E : Env} {σ : Nat → PV} (hσ : Fit σ) {P : Program} {f : Nat} {ds : List PV} {q : PV} :
    @Known (E.put σ hσ.form) P f ds q ↔ @Known E P f (subL σ ds) (Ev.sub σ q) := by
  have hc := fun n => form_cell (hσ.form n)
  constructor
  · intro h
    refine ⟨h.1, fun w F args hF hv => Calls.mono (h.2 w F args hF ((VRs_sub hσ).2 hv)) ?_⟩
    rintro e w' ⟨v, F', rfl, h1, h2, h3⟩
    exact ⟨v, F', rfl, VR_to (E := E.put σ hσ.form) (E' := E) (fun _ => rfl) hc (unk_to hσ) h1, h2, h3⟩
  · intro h
    refine ⟨h.1, fun w F args hF hv => Calls.mono (h.2 w F args hF ((VRs_sub hσ).1 hv)) ?_⟩
    rintro e w' ⟨v, F', rfl, h1, h2, h3⟩
    exact ⟨v, F', rfl, VR_from (E := E.put σ hσ.form) (E' := E) (fun _ => rfl) hc (unk_from hσ) q h1, h2, h3⟩

theorem twoS_sub {σ : Nat → PV} (hσ : Fit σ) (cs : List PV) : twoS (subL σ cs) = twoS cs := by
  cases h : twoS cs with
  | true =>
    obtain ⟨t1, cs1, r, rfl⟩ := twoS_true h
    simp [subL, Ev.sub, twoS]
  | false =>
    cases h2 : twoS (subL σ cs) with
    | false => rfl
    | true =>
      exfalso
      obtain ⟨t1, cs1, r, e⟩ := twoS_true h2
      rcases cs with _ | ⟨c, cs⟩
      · simp [subL] at e
      simp only [subL, List.cons.injEq] at e
      obtain ⟨e, _⟩ := e
      have hl : ∃ l, c = .tup l := by
        cases c <;> simp [Ev.sub] at e
        · exact ⟨_, rfl⟩
        · rename_i n
          rcases hσ.form n with ⟨y, g⟩ | ⟨es, ex, g⟩ <;> rw [g] at e <;> simp at e
      obtain ⟨l, rfl⟩ := hl
      simp only [Ev.sub, PV.tup.injEq] at e
      rcases l with _ | ⟨x, l⟩
      · simp [subL] at e
      simp only [subL, List.cons.injEq] at e
      obtain ⟨e, _⟩ := e
      have hm : ∃ n, x = .mp n := by
        cases x <;> simp [Ev.sub] at e
        · rename_i n
          rcases hσ.form n with ⟨y, g⟩ | ⟨es, ex, g⟩ <;> rw [g] at e <;> simp at e
        · exact ⟨_, rfl⟩
      obtain ⟨n, rfl⟩ := hm
      simp [twoS] at h

theorem alike_to {E : Env} {σ : Nat → PV} (hσ : Fit σ) {w : World} {F : Fz} {M : Mp} (cs : List PV) : AlikeL (E.put σ hσ.form) E w F M cs (subL σ cs) := by
  have hc := fun n => form_cell (hσ.form n)
  refine ⟨subL_len σ cs, fun o x hx => ?_⟩
  rw [subL_get] at hx
  obtain ⟨d, hd, rfl⟩ := Option.map_eq_some_iff.1 hx
  exact ⟨d, hd, fun h => by rw [cellOk_sub hc]; exact h, fun v h => VR_to (E := E.put σ hσ.form) (E' := E) (fun _ => rfl) hc (unk_to hσ) h⟩
theorem alike_from {E : Env} {σ : Nat → PV} (hσ : Fit σ) {w : World} {F : Fz} {M : Mp} (cs : List PV) : AlikeL E (E.put σ hσ.form) w F M (subL σ cs) cs := by
  have hc := fun n => form_cell (hσ.form n)
  refine ⟨(subL_len σ cs).symm, fun o x hx => ?_⟩
  refine ⟨Ev.sub σ x, by rw [subL_get, hx]; rfl, fun h => by rw [cellOk_sub hc] at h; exact h, fun v h => VR_from (E := E.put σ hσ.form) (E' := E) (fun _ => rfl) hc (unk_from hσ) x h⟩

theorem HS_to {E : Env} {σ : Nat → PV} (hσ : Fit σ) {w : World} {F : Fz} {M : Mp} {cs : List PV} {ty : Nat} (h : @HS (E.put σ hσ.form) (startS ty cs) w F M) : @HS E (startS ty (subL σ cs)) w F M := by
  cases h2 : twoS cs with
  | true =>
    obtain ⟨t1, cs1, r, rfl⟩ := twoS_true h2
    have := HS.swap2 (ty := ty) (t1 := t1) (alike_to (E := E) hσ r) (alike_to (E := E) hσ cs1) h
    rw [show startS ty (subL σ (.tup (.mp t1 :: cs1) :: r)) = hp2 ty t1 (subL σ cs1) (subL σ r) by simp [subL, Ev.sub, startS, hp2]]
    exact this
  | false => exact HS.swap1 h2 ((twoS_sub hσ cs).trans h2) (alike_to hσ cs) h
theorem HS_from {E : Env} {σ : Nat → PV} (hσ : Fit σ) {w : World} {F : Fz} {M : Mp} {cs : List PV} {ty : Nat} (h : @HS E (startS ty (subL σ cs)) w F M) : @HS (E.put σ hσ.form) (startS ty cs) w F M := by
  cases h2 : twoS cs with
  | true =>
    obtain ⟨t1, cs1, r, rfl⟩ := twoS_true h2
    rw [show startS ty (subL σ (.tup (.mp t1 :: cs1) :: r)) = hp2 ty t1 (subL σ cs1) (subL σ r) by simp [subL, Ev.sub, startS, hp2]] at h
    exact HS.swap2 (ty := ty) (t1 := t1) (alike_from (E := E) hσ r) (alike_from (E := E) hσ cs1) h
  | false => exact HS.swap1 ((twoS_sub hσ cs).trans h2) h2 (alike_from hσ cs) h

/-- both ways: a fact about blocks told of -/
theorem KnownS.sub {E : Env} {σ : Nat → PV} (hσ : Fit σ) {P : Program} {f ty : Nat} {cs ds : List PV} {q : PV} {cs' : List PV} :
    @KnownS (E.put σ hσ.form) P f ty cs ds q cs' ↔ @KnownS E P f ty (subL σ cs) (subL σ ds) (Ev.sub σ q) (subL σ cs') := by
  have hc := fun n => form_cell (hσ.form n)
  have hpt : ∀ (M : Mp) (w : World) (F : Fz) (ys : List Value), @VRs (E.put σ hσ.form) w F M (.ptr 0 0 :: ds) ys ↔ @VRs E w F M (.ptr 0 0 :: subL σ ds) ys := by
    intro M w F ys
    have := @VRs_sub E σ hσ w F M (.ptr 0 0 :: ds) ys
    rw [this, subL, Ev.sub]
  constructor
  · intro h
    refine ⟨h.1, fun w F M args hs hv => Calls.mono (h.2 w F M args (HS_from hσ hs) ((hpt M w F _).2 hv)) ?_⟩
    rintro e w' ⟨v, F', rfl, h1, h2, h3⟩
    exact ⟨v, F', rfl, VR_to (E := E.put σ hσ.form) (E' := E) (fun _ => rfl) hc (unk_to hσ) h1, HS_to hσ h2, h3⟩
  · intro h
    refine ⟨h.1, fun w F M args hs hv => Calls.mono (h.2 w F M args (HS_to hσ hs) ((hpt M w F _).1 hv)) ?_⟩
    rintro e w' ⟨v, F', rfl, h1, h2, h3⟩
    exact ⟨v, F', rfl, VR_from (E := E.put σ hσ.form) (E' := E) (fun _ => rfl) hc (unk_from hσ) q h1, HS_from hσ h2, h3⟩

theorem unKey_sub {σ : Nat → PV} (hσ : Fit σ) {ds : List PV} (h : unKey ds = none) : unKey (subL σ ds) = none := by
  have hu : ∀ x : PV, (Ev.sub σ x = .top → x = .top) ∧ (∀ n, Ev.sub σ x = .mp n → x = .mp n) ∧ (∀ cs, Ev.sub σ x = .tup cs → ∃ ds, x = .tup ds) := by
    intro x
    cases x <;> simp [Ev.sub]
    rename_i n
    rcases hσ.form n with ⟨y, e⟩ | ⟨es, ex, e⟩ <;> rw [e] <;> simp
  rcases ds with _ | ⟨a, ds⟩
  · rfl
  rcases ds with _ | ⟨b, ds⟩
  · simp only [subL]; unfold unKey; split
    · rename_i heq; simp at heq
    · rfl
  rcases ds with _ | ⟨c, ds⟩
  · simp only [subL]; unfold unKey; split
    · rename_i heq; simp at heq
    · rfl
  simp only [subL]
  unfold unKey
  split
  · rename_i ty cs r heq
    simp only [List.cons.injEq] at heq
    obtain ⟨h1, h2, h3, _⟩ := heq
    obtain rfl := (hu a).1 h1
    obtain rfl := (hu b).2.1 _ h2
    obtain ⟨ds', rfl⟩ := (hu c).2.2 _ h3
    simp [unKey] at h
  · rfl

theorem KnownX.unsub {E : Env} {σ : Nat → PV} (hσ : Fit σ) {P : Program} {f : Nat} {ds : List PV} {q : PV} (h : @KnownX E P f (subL σ ds) (Ev.sub σ q)) : @KnownX (E.put σ hσ.form) P f ds q := by
  unfold KnownX at h ⊢
  cases hk : unKey ds with
  | none =>
    rw [unKey_sub hσ hk] at h
    exact (Known.sub hσ).2 h
  | some t =>
    obtain ⟨ty, cs, r⟩ := t
    obtain rfl := unKey_some hk
    simp only [subL, Ev.sub, unKey] at h
    obtain ⟨q1, cs', hq, h⟩ := h
    have htup : ∀ (x : PV) (l : List PV), Ev.sub σ x = .tup l → ∃ m, x = .tup m ∧ subL σ m = l := by
      intro x l hx
      cases x <;> simp [Ev.sub] at hx
      · exact ⟨_, rfl, hx⟩
      · rename_i n
        rcases hσ.form n with ⟨y, e⟩ | ⟨es, ex, e⟩ <;> rw [e] at hx <;> simp at hx
    obtain ⟨m, rfl, hm⟩ := htup q _ hq
    rcases m with _ | ⟨a, _ | ⟨b, _ | ⟨c, m⟩⟩⟩ <;> simp [subL] at hm
    obtain ⟨h1, h2⟩ := hm
    obtain ⟨m2, rfl, h3⟩ := htup b _ h2
    subst h1; subst h3
    exact ⟨a, m2, rfl, (KnownS.sub hσ).2 h⟩
end Go.Ev

/- What the reader's own questions of a token come to: for every reader. -/
namespace Go.Ev.A
open Go.Proofs
/-- what stands in a reader's cells, and around -/
def sg (es : List (List PV)) (ex : Bool) (en p tl vt vn at_ : Value) (pos : Nat) (c1 c2 c3 : Value) (n : Nat) : PV := match n with
  | 0 => .sl es ex
  | 1 => .v en
  | 3 => .v p
  | 6 => .v tl
  | 200 => .v vt
  | 201 => .v vn
  | 900 => I es.length
  | 910 => .v c1
  | 911 => .v c2
  | 912 => .v c3
  | 1000 => I pos
  | 1001 => I (pos + 1)
  | 3000 => .v at_
  | _ => I 0
theorem sg_fit {es ex en p tl vt vn at_ pos c1 c2 c3} (h : clean (.sl es ex) = true) : Fit (sg es ex en p tl vt vn at_ pos c1 c2 c3) := by
  constructor
  · intro n
    unfold sg
    split <;> first | exact .inl ⟨_, rfl⟩ | exact .inr ⟨_, _, rfl⟩
  · intro n
    unfold sg
    split <;> first | exact h | rfl
/-- a text that begins with a capital letter -/
def Cap (v : Value) : Prop := ∃ c r, v = .string ⟨⟨c :: r⟩⟩ ∧ 65 ≤ c.toNat ∧ c.toNat ≤ 90
theorem cap_ne {v : Value} (hv : Cap v) {s : PV} (hs : noCap s = true) : ∃ a b, v = .string a ∧ s = .v (.string b) ∧ bytesEq a.data.toList b.data.toList = false := by
  obtain ⟨c, r, rfl, h1, h2⟩ := hv
  unfold noCap at hs
  split at hs
  · rename_i b
    refine ⟨_, b, rfl, rfl, ?_⟩
    cases hb : b.data.toList with
    | nil => rfl
    | cons d s =>
      rw [hb] at hs
      simp only [Bool.not_eq_true', Bool.and_eq_false_iff] at hs
      simp only [bytesEq]
      have : Nat.beq c.toNat d.toNat = false := by
        cases hq : Nat.beq c.toNat d.toNat with
        | false => rfl
        | true =>
          have hq := Nat.eq_of_beq_eq_true hq
          rcases hs with hs | hs
          · have := Nat.le_of_ble_eq_true (n := 65) (m := c.toNat) (Nat.ble_eq_true_of_le h1)
            rw [← hq, Nat.ble_eq_true_of_le h1] at hs; cases hs
          · rw [← hq, Nat.ble_eq_true_of_le h2] at hs; cases hs
      simp [this]
  · cases hs
section
variable [E : Env]
theorem ile_false {a b : Nat} (h : a < b) : ileb (.ofNat b) (.ofNat a) = false := by
  show Nat.ble b a = false
  cases hq : Nat.ble b a with
  | false => rfl
  | true => have := Nat.le_of_ble_eq_true hq; omega

variable {es : List (List PV)} {ex : Bool} {en p tl vt vn at_ : Value} {pos : Nat} {c1 c2 c3 : Value}
theorem le_sub {σ : Nat → PV} (hσ : Fit σ) {w : World} {F : Fz} {M : Mp} {c : PV} {v : Value} (hc : clean c = true ∨ ∃ n, c = .unk n) (h : @VR (E.put σ hσ.form) w F M (Ev.sub σ c) v) : @VR (E.put σ hσ.form) w F M c v := by
  rcases hc with hc | ⟨n, rfl⟩
  · rwa [sub_clean σ c hc] at h
  · rw [Ev.sub] at h
    letI := E.put σ hσ.form
    exact Le.unk (show Env.pv n = σ n from rfl) w F M v h


/-- a token whose text and number are known, or a variable's, or a number's -/
def goodTok : It → Bool
  | .tok _ s n => (cellOk s && cellOk n) && ((clean s || match s with | .unk 200 => true | _ => false) && (clean n || match n with | .unk 201 => true | _ => false))
  | .hole => false
theorem good_cells {x : It} (h : goodTok x = true) : ∀ c ∈ cells x, clean c = true ∨ ∃ n, c = .unk n := by
  cases x with
  | hole => cases h
  | tok k s n =>
    simp only [goodTok, Bool.and_eq_true, Bool.or_eq_true] at h
    intro c hc
    simp only [cells, List.mem_cons, List.not_mem_nil, or_false] at hc
    rcases hc with rfl | rfl | rfl | rfl
    · exact .inl rfl
    · rcases h.2.1 with h | h
      · exact .inl h
      · split at h
        · exact .inr ⟨_, rfl⟩
        · cases h
    · rcases h.2.2 with h | h
      · exact .inl h
      · split at h
        · exact .inr ⟨_, rfl⟩
        · cases h
    · exact .inr ⟨_, rfl⟩

theorem le_ep {σ : Nat → PV} (hσ : Fit σ) {cs : List PV} (hc : ∀ c ∈ cs, clean c = true ∨ ∃ n, c = .unk n) (hk : ∀ c ∈ cs, cellOk c = true) : @Le (E.put σ hσ.form) (.ep (subL σ cs) 0) (.ep cs 0) := by
  intro w F M v h
  generalize hq : PV.ep (subL σ cs) 0 = q at h
  cases h <;> cases hq
  rename_i b o f h1 h2
  refine @VR.ep (E.put σ hσ.form) _ _ _ _ _ _ _ f (fun j c hj => ?_) (fun j c hj => ?_)
  · have hm := List.mem_of_getElem? hj
    have := h1 j (Ev.sub σ c) (by rw [subL_get, hj]; rfl)
    exact ⟨hk c hm, this.2⟩
  · have hm := List.mem_of_getElem? hj
    exact le_sub hσ (hc c hm) (h2 j (Ev.sub σ c) (by rw [subL_get, hj]; rfl))


theorem cells_ok {x : It} (h : goodTok x = true) : ∀ c ∈ cells x, cellOk c = true := by
  cases x with
  | hole => cases h
  | tok k s n =>
    simp only [goodTok, Bool.and_eq_true, Bool.or_eq_true] at h
    intro c hc
    simp only [cells, List.mem_cons, List.not_mem_nil, or_false] at hc
    rcases hc with rfl | rfl | rfl | rfl
    · rfl
    · exact h.1.1
    · exact h.1.2
    · rfl

theorem askM_ok {x : It} {ty : Bool} (hx : goodTok x = true) (hf : clean (.sl es ex) = true) (h0 : es[pos]? = some (subL (sg es ex en p tl vt vn at_ pos c1 c2 c3) (cells x)))
    (h1 : ty = true → es[pos + 1]? = some [I 5, .v c1, .v c2, .v c3]) (hl : es.length ≤ 9223372036854775807) (hV : Cap vt) :
    @AskOk (E.put _ (sg_fit (en := en) (p := p) (tl := tl) (vt := vt) (vn := vn) (at_ := at_) (pos := pos) (c1 := c1) (c2 := c2) (c3 := c3) hf).form) Tryz.prog (askM x ty) := by
  have hσ := sg_fit (en := en) (p := p) (tl := tl) (vt := vt) (vn := vn) (at_ := at_) (pos := pos) (c1 := c1) (c2 := c2) (c3 := c3) hf
  have hpos : pos < es.length := (List.getElem?_eq_some_iff.1 h0).1
  letI := E.put _ hσ.form
  refine AskOk.of (T := tys) tOk fun o l q e => ?_
  unfold askM at e
  split at e
  · cases e
    exact ⟨I es.length, fun hp => rfl, Le.unk rfl⟩
  · rename_i t a
    split at e
    · rename_i hc
      cases e
      simp only [Bool.or_eq_true, Bool.and_eq_true] at hc
      rcases hc with hc | ⟨hc1, hc⟩
      · obtain rfl := Nat.eq_of_beq_eq_true hc
        refine ⟨Bo true, ?_, Le.refl _⟩
        show intOp .lss .i64 .i64 (.ofNat pos) (.ofNat es.length) = _
        rw [int_lss, ile_false hpos]; rfl
      · obtain rfl := Nat.eq_of_beq_eq_true hc
        have hp1 : pos + 1 < es.length := (List.getElem?_eq_some_iff.1 (h1 hc1)).1
        refine ⟨Bo true, ?_, Le.refl _⟩
        show intOp .lss .i64 .i64 (.ofNat (pos + 1)) (.ofNat es.length) = _
        rw [int_lss, ile_false hp1]; rfl
    · cases e
  · rename_i t k
    split at e
    · rename_i hc
      cases e
      have hk := Nat.le_of_ble_eq_true hc
      have hr : bin tys .add t (I pos) (I k) = some (I (pos + k)) := int_add64 pos k (by omega)
      refine ⟨I (pos + k), hr, Le.unk ?_⟩
      rcases Nat.le_one_iff_eq_zero_or_eq_one.1 hk with rfl | rfl <;> rfl
    · cases e
  · cases e
    exact ⟨I pos, int_sub64 (pos + 1) 1 (by omega) (by omega), Le.unk rfl⟩
  · rename_i a
    split at e
    · rename_i hc
      obtain rfl := Nat.eq_of_beq_eq_true hc
      cases e
      refine ⟨.ep (subL _ (cells x)) 0, fun hp => ?_, le_ep hσ (good_cells hx) (cells_ok hx)⟩
      have hlen : (subL (sg es ex en p tl vt vn at_ pos c1 c2 c3) (cells x)).length = 4 := by
        rw [subL_len]
        cases x with
        | hole => cases hx
        | tok k s n => rfl
      show ret1 hp (idxSl 4 (.sl es ex) pos) = _
      unfold idxSl
      simp only [h0, hlen]
      rfl
    · split at e
      · rename_i hc
        simp only [Bool.and_eq_true] at hc
        obtain ⟨hc1, hc⟩ := hc
        obtain rfl := Nat.eq_of_beq_eq_true hc
        cases e
        refine ⟨.ep (subL (sg es ex en p tl vt vn at_ pos c1 c2 c3) [I 5, .unk 910, .unk 911, .unk 912]) 0, fun hp => ?_, le_ep hσ (by simp [clean]) (by simp [cellOk])⟩
        show ret1 hp (idxSl 4 (.sl es ex) (pos + 1)) = _
        unfold idxSl
        simp only [h1 hc1]
        rfl
      · cases e
  · rename_i t s
    split at e
    · rename_i hc
      cases e
      obtain ⟨a, b, h1, rfl, h3⟩ := cap_ne hV hc
      refine ⟨Bo false, ?_, Le.refl _⟩
      show bin tys .eql t (.v vt) (.v (.string b)) = _
      subst h1
      show strBin .eql a b = _
      simp only [strBin, h3]
    · cases e
  · rename_i t s
    split at e
    · rename_i hc
      cases e
      obtain ⟨a, b, h1, rfl, h3⟩ := cap_ne hV hc
      refine ⟨Bo true, ?_, Le.refl _⟩
      show bin tys .neq t (.v vt) (.v (.string b)) = _
      subst h1
      show strBin .neq a b = _
      simp only [strBin, h3]
      rfl
    · cases e
  · cases e


theorem orcNone_ok [Env] {P : Program} : OrcOk P (fun _ _ => none) := fun _ _ _ h => by cases h
theorem eOf_ok [Env] : ∀ f, f ∈ [53, 51, 107, 108, 141, 57, 96] → FIOk Tryz.prog f (eOf f) := by
  intro f hf
  simp only [List.mem_cons, List.not_mem_nil, or_false] at hf
  rcases hf with rfl | rfl | rfl | rfl | rfl | rfl | rfl
  · exact e53ok
  · exact e51ok
  · exact e107ok
  · exact e108ok
  · exact e141ok
  · exact e57ok
  · exact e96ok

/-- a question of the reader about the token where it stands: its answer, for every reader -/
theorem quest {x : It} {f : Nat} {args cs : List PV} {r : PV} (hfm : f ∈ [53, 51, 107, 108, 141, 57, 96]) (hg : goesF ⟨tysT, askM x false⟩ fnsM (fun _ _ => none) 10000 (eOf f) 73 (noTail (rd 0 true)) args r (noTail cs) = true)
    (hx : goodTok x = true) (hf : clean (.sl es ex) = true) (h0 : es[pos]? = some (subL (sg es ex en p tl vt vn at_ pos c1 c2 c3) (cells x))) (hl : es.length ≤ 9223372036854775807) (hV : Cap vt) :
    KnownS Tryz.prog f 73 (subL (sg es ex en p tl vt vn at_ pos c1 c2 c3) (noTail (rd 0 true))) (subL (sg es ex en p tl vt vn at_ pos c1 c2 c3) args) (Ev.sub (sg es ex en p tl vt vn at_ pos c1 c2 c3) r) (subL (sg es ex en p tl vt vn at_ pos c1 c2 c3) (noTail cs)) := by
  have hσ := sg_fit (en := en) (p := p) (tl := tl) (vt := vt) (vn := vn) (at_ := at_) (pos := pos) (c1 := c1) (c2 := c2) (c3 := c3) hf
  refine (KnownS.sub hσ).1 ?_
  letI := E.put _ hσ.form
  exact knownS_goes (T := ⟨tysT, askM x false⟩) (TOk.asked (T := tys) tOk (askM_ok hx hf h0 (fun h => by cases h) hl hV)) mixed fnsMOk orcNone_ok (eOf_ok f hfm) hg

end
end Go.Ev.A

/- What a reader of one production is told is so. -/
namespace Go.Ev.A
open Go.Proofs
theorem okMq_mem {x : It} : ∀ {l : List (Nat × List PV)}, okMq x l = true → ∀ q ∈ l, okM1 x q.1 q.2 = true
  | [], _, q, h => by cases h
  | a :: r, h, q, hq => by
    simp only [okMq, Bool.and_eq_true] at h
    rcases List.mem_cons.1 hq with rfl | hq
    · exact h.1
    · exact okMq_mem h.2 q hq
theorem okM_mem : ∀ {l : List It}, okM l = true → ∀ x ∈ l, okMq x qs = true
  | [], _, x, h => by cases h
  | a :: r, h, x, hx => by
    simp only [okM, Bool.and_eq_true] at h
    rcases List.mem_cons.1 hx with rfl | hx
    · exact h.1
    · exact okM_mem h.2 x hx
theorem okM_toks {x : It} (hx : x ∈ toks) {f : Nat} {args : List PV} (hq : (f, args) ∈ qs) : okM1 x f args = true := by
  have h : x ∈ (toks.drop 0).take 18 ∨ x ∈ (toks.drop 18).take 18 ∨ x ∈ (toks.drop 36).take 18 := by
    have e1 : toks = (toks.drop 0).take 18 ++ ((toks.drop 18).take 18 ++ (toks.drop 36).take 18) := rfl
    rw [e1] at hx
    rcases List.mem_append.1 hx with h | h
    · exact .inl h
    · rcases List.mem_append.1 h with h | h
      · exact .inr (.inl h)
      · exact .inr (.inr h)
  rcases h with h | h | h
  · exact okMq_mem (okM_mem mOk0 x h) _ hq
  · exact okMq_mem (okM_mem mOk1 x h) _ hq
  · exact okMq_mem (okM_mem mOk2 x h) _ hq

theorem bytesEq_eq' : ∀ {a b : List UInt8}, bytesEq a b = true → a = b
  | [], [], _ => rfl
  | [], _ :: _, h => by simp [bytesEq] at h
  | _ :: _, [], h => by simp [bytesEq] at h
  | x :: a, y :: b, h => by
    simp only [bytesEq] at h
    cases hq : Nat.beq x.toNat y.toNat with
    | false => rw [hq] at h; cases h
    | true =>
      rw [hq] at h
      rw [UInt8.toNat_inj.1 (Nat.eq_of_beq_eq_true hq), bytesEq_eq' h]
theorem txtEq_eq {s t : PV} (h : txtEq s t = true) : s = t := by
  unfold txtEq at h
  split at h
  · rename_i a b
    have := bytesEq_eq' h
    obtain ⟨⟨a⟩⟩ := a
    obtain ⟨⟨b⟩⟩ := b
    simp at this
    rw [this]
  · cases h
theorem txtIn_mem {s : PV} : ∀ {l : List PV}, txtIn s l = true → s ∈ l
  | [], h => by cases h
  | t :: r, h => by
    simp only [txtIn, Bool.or_eq_true] at h
    rcases h with h | h
    · rw [txtEq_eq h]; exact List.mem_cons_self ..
    · exact List.mem_cons_of_mem _ (txtIn_mem h)
theorem isL_clean : cleanL isL = true := rfl
theorem signL_clean : cleanL signL = true := rfl
theorem qs57 {s : PV} (h : s ∈ isL) : (57, [s]) ∈ qs := by
  refine List.mem_append_left _ ?_
  refine List.mem_cons_of_mem _ (List.mem_cons_of_mem _ (List.mem_cons_of_mem _ (List.mem_cons_of_mem _ (List.mem_cons_of_mem _ ?_))))
  exact List.mem_map_of_mem h
theorem qs96 {s : PV} (h : s ∈ signL) : (96, [I 0, s]) ∈ qs := List.mem_append_right _ (List.mem_map_of_mem h)
theorem toks_good : toks.all goodTok = true := rfl
end Go.Ev.A

/- What a reader of one production is told is so: its tokens. -/
namespace Go.Ev.A
open Go.Proofs
/-- a production as it stands before a reader -/
structure PE where
  es : List (List PV)
  ex : Bool
  en : Value
  p : Value
  d : Nat
  vt : Value
  vn : Value
  P : Nat → Nat
  X : Nat → List PV
  A : Nat → Value
  W : Nat → List PV
def low (e : PE) (n : Nat) : PV := match n with
  | 0 => .sl e.es e.ex
  | 1 => .v e.en
  | 3 => .v e.p
  | 4 => I e.d
  | 5 => I (e.d + 1)
  | 6 => I (e.d + 2)
  | 7 => I (e.d + 3)
  | 8 => I (e.d + 4)
  | 9 => I (e.d + 5)
  | 200 => .v e.vt
  | 201 => .v e.vn
  | _ => I 0
def sp (e : PE) (n : Nat) : PV :=
  if n < 1000 then low e n else if n < 2000 then I (e.P (n - 1000)) else if n < 3000 then (e.X ((n - 2000) / 20)).getD ((n - 2000) % 20) (I 0)
  else if n < 3200 then .v (e.A (n - 3000)) else (e.W ((n - 3200) / 4)).getD ((n - 3200) % 4) (I 0)
def formed (c : PV) : Prop := ((∃ x, c = .v x) ∨ ∃ es ex, c = .sl es ex) ∧ clean c = true
theorem formed_getD {l : List PV} (h : ∀ c ∈ l, formed c) (i : Nat) : formed (l.getD i (I 0)) := by
  rw [List.getD_eq_getElem?_getD]
  cases hi : l[i]? with
  | none => exact ⟨.inl ⟨_, rfl⟩, rfl⟩
  | some c => exact h c (List.mem_of_getElem? hi)
theorem sp_fit {e : PE} (h : clean (.sl e.es e.ex) = true) (hX : ∀ n, ∀ c ∈ e.X n, formed c) (hW : ∀ n, ∀ c ∈ e.W n, formed c) : Fit (sp e) := by
  have hl : ∀ n, formed (low e n) := by
    intro n
    unfold low
    split <;> first | exact ⟨.inr ⟨_, _, rfl⟩, h⟩ | exact ⟨.inl ⟨_, rfl⟩, rfl⟩
  have : ∀ n, formed (sp e n) := by
    intro n
    unfold sp
    split
    · exact hl n
    split
    · exact ⟨.inl ⟨_, rfl⟩, rfl⟩
    split
    · exact formed_getD (hX _) _
    split
    · exact ⟨.inl ⟨_, rfl⟩, rfl⟩
    · exact formed_getD (hW _) _
  exact ⟨fun n => (this n).1, fun n => (this n).2⟩
theorem sp_low {e : PE} {n : Nat} (h : n < 1000) : sp e n = low e n := by unfold sp; rw [if_pos h]
theorem sp_pos {e : PE} {m : Nat} (h : m < 1000) : sp e (1000 + m) = I (e.P m) := by
  unfold sp
  rw [if_neg (by omega), if_pos (by omega), Nat.add_sub_cancel_left]
theorem sp_at {e : PE} {m : Nat} (h : m < 200) : sp e (3000 + m) = .v (e.A m) := by
  unfold sp
  rw [if_neg (by omega), if_neg (by omega), if_neg (by omega), if_pos (by omega), Nat.add_sub_cancel_left]
theorem sp_x {e : PE} {m c : Nat} (h : m < 50) (hc : c < 20) : sp e (2000 + 20 * m + c) = (e.X m).getD c (I 0) := by
  unfold sp
  rw [if_neg (by omega), if_neg (by omega), if_pos (by omega)]
  rw [show (2000 + 20 * m + c - 2000) / 20 = m by omega, show (2000 + 20 * m + c - 2000) % 20 = c by omega]
theorem sp_w {e : PE} {m c : Nat} (hc : c < 4) : sp e (3200 + 4 * m + c) = (e.W m).getD c (I 0) := by
  unfold sp
  rw [if_neg (by omega), if_neg (by omega), if_neg (by omega), if_neg (by omega)]
  rw [show (3200 + 4 * m + c - 3200) / 4 = m by omega, show (3200 + 4 * m + c - 3200) % 4 = c by omega]

/-- a token's cells, as they are -/
def tc (vt vn : Value) : PV → PV
  | .unk 200 => .v vt
  | .unk 201 => .v vn
  | c => c
def tokCells (vt vn at_ : Value) : It → List PV
  | .tok k s n => [I k, tc vt vn s, tc vt vn n, .v at_]
  | .hole => []
theorem tc_clean {vt vn : Value} {c : PV} (h : clean c = true) : tc vt vn c = c := by
  unfold tc
  split
  · cases h
  · cases h
  · rfl
theorem sub_tc {σ : Nat → PV} {vt vn : Value} (h1 : σ 200 = .v vt) (h2 : σ 201 = .v vn) {k : Nat} {s n : PV} (h : goodTok (.tok k s n) = true) : Ev.sub σ s = tc vt vn s ∧ Ev.sub σ n = tc vt vn n := by
  simp only [goodTok, Bool.and_eq_true, Bool.or_eq_true] at h
  obtain ⟨_, hs, hn⟩ := h
  constructor
  · rcases hs with h | h
    · rw [sub_clean σ s h, tc_clean h]
    · split at h
      · rw [Ev.sub, h1]; rfl
      · cases h
  · rcases hn with h | h
    · rw [sub_clean σ n h, tc_clean h]
    · split at h
      · rw [Ev.sub, h2]; rfl
      · cases h
/-- the reader as it is -/
def stA (e : PE) (pos : Nat) (t : Bool) : List PV := [.sl e.es e.ex, .v e.en, I pos, I 0, .v e.p, Bo t]
theorem sub_rd {e : PE} {m : Nat} (h : m < 1000) (t : Bool) : subL (sp e) (rd m t) = stA e (e.P m) t := by
  simp only [rd, subL, Ev.sub, sp_pos h, sp_low (e := e) (n := 0) (by omega), sp_low (e := e) (n := 1) (by omega), sp_low (e := e) (n := 3) (by omega)]
  rfl
end Go.Ev.A

/- What a reader of one production is told is so: its questions of a token. -/
namespace Go.Ev.A
open Go.Proofs
section
variable [E : Env]
theorem knownX_of {e : PE} {f m m' : Nat} {t t' : Bool} {args : List PV} {r : PV} (hm : m < 1000) (hm' : m' < 1000)
    (h : KnownS Tryz.prog f 73 (stA e (e.P m) t) (subL (sp e) args) (Ev.sub (sp e) r) (stA e (e.P m') t')) :
    KnownX Tryz.prog f (subL (sp e) (stKey 73 (rd m t) args)) (Ev.sub (sp e) (.tup [r, .tup (rd m' t')])) := by
  have h1 : subL (sp e) (stKey 73 (rd m t) args) = .top :: .mp 73 :: .tup (stA e (e.P m) t) :: subL (sp e) args := by
    simp only [stKey, subL, Ev.sub, sub_rd hm]
  have h2 : Ev.sub (sp e) (.tup [r, .tup (rd m' t')]) = .tup [Ev.sub (sp e) r, .tup (stA e (e.P m') t')] := by
    simp only [Ev.sub, subL, sub_rd hm']
  rw [h1, h2]
  exact ⟨_, _, rfl, h⟩
theorem sub_cells {es ex en p tl vt vn at_ pos c1 c2 c3} {k : Nat} {s n : PV} (h : goodTok (.tok k s n) = true) : subL (sg es ex en p tl vt vn at_ pos c1 c2 c3) (cells (.tok k s n)) = tokCells vt vn at_ (.tok k s n) := by
  simp only [cells, subL, tokCells]
  rw [(sub_tc (σ := sg es ex en p tl vt vn at_ pos c1 c2 c3) rfl rfl h).1, (sub_tc (σ := sg es ex en p tl vt vn at_ pos c1 c2 c3) rfl rfl h).2]
  rfl
/-- a question about a token, for every reader -/
theorem ask_tok {e : PE} {vt vn at_ : Value} {pos : Nat} {t : Bool} (hf : clean (.sl e.es e.ex) = true) (hl : e.es.length ≤ 9223372036854775807) (hV : Cap vt) {k : Nat} {s n : PV} (hx : .tok k s n ∈ toks)
    (h0 : e.es[pos]? = some (tokCells vt vn at_ (.tok k s n))) {f : Nat} {args : List PV} {r : PV} {δ : Nat} (hfm : f ∈ [53, 51, 107, 108, 141, 57, 96]) (hq : (f, args) ∈ qs)
    (ha : atIt true true f 0 true args (.tok k s n) = some (.tup [r, .tup (rd δ true)])) (hδ : δ = 0 ∨ δ = 1) (hcl : cleanL args = true) :
    KnownS Tryz.prog f 73 (stA e pos t) args (Ev.sub (sg e.es e.ex e.en e.p (.bool t) vt vn at_ pos (.bool true) (.bool true) (.bool true)) r) (stA e (pos + δ) t) := by
  have hg : goodTok (.tok k s n) = true := List.all_eq_true.1 toks_good _ hx
  have hq := okM_toks hx hq
  simp only [okM1, ha] at hq
  have := quest (en := e.en) (p := e.p) (tl := .bool t) (vt := vt) (vn := vn) (at_ := at_) (c1 := .bool true) (c2 := .bool true) (c3 := .bool true) hfm hq hg hf (by rw [sub_cells hg]; exact h0) hl hV
  rw [subL_clean _ args hcl] at this
  rcases hδ with rfl | rfl
  · exact this
  · exact this
end
end Go.Ev.A

/- What a reader of one production is told of its tokens is so. -/
namespace Go.Ev.A
open Go.Proofs
theorem clean_mem {l : List PV} (h : cleanL l = true) {s : PV} (hs : s ∈ l) : clean s = true := by
  obtain ⟨i, hi⟩ := List.getElem?_of_mem hs
  exact cleanL_get h hi
section
variable [E : Env]
theorem orc_tok {e : PE} (hf : clean (.sl e.es e.ex) = true) (hl : e.es.length ≤ 9223372036854775807) (hV : Cap e.vt) {k : Nat} {s n : PV} (hx : .tok k s n ∈ toks) {m : Nat} (hm : m < 199)
    (hP : e.es[e.P m]? = some (tokCells e.vt e.vn (e.A m) (.tok k s n))) (hP1 : e.P (m + 1) = e.P m + 1) {c w : Bool} {f : Nat} {t : Bool} {args : List PV} {q : PV} (h : atIt c w f m t args (.tok k s n) = some q) :
    KnownX Tryz.prog f (subL (sp e) (stKey 73 (rd m t) args)) (Ev.sub (sp e) q) := by
  have hg : goodTok (.tok k s n) = true := List.all_eq_true.1 toks_good _ hx
  have h2 : sp e 200 = .v e.vt := sp_low (by omega)
  have h3 : sp e 201 = .v e.vn := sp_low (by omega)
  obtain ⟨hs1, hn1⟩ := sub_tc (σ := sp e) h2 h3 hg
  obtain ⟨hs2, hn2⟩ := sub_tc (σ := sg e.es e.ex e.en e.p (.bool t) e.vt e.vn (e.A m) (e.P m) (.bool true) (.bool true) (.bool true)) rfl rfl hg
  unfold atIt at h
  split at h
  · simp only [same] at h
    cases h
    refine knownX_of (by omega) (by omega) ?_
    have := ask_tok (t := t) hf hl hV hx hP (f := 53) (args := []) (δ := 0) (by simp) (by simp [qs]) rfl (.inl rfl) rfl
    rw [Nat.add_zero] at this
    have he : Ev.sub (sp e) (.agg [I k, s, n, .unk (3000 + m)]) = Ev.sub (sg e.es e.ex e.en e.p (.bool t) e.vt e.vn (e.A m) (e.P m) (.bool true) (.bool true) (.bool true)) (.agg [I k, s, n, .unk 3000]) := by
      simp only [Ev.sub, subL, hs1, hn1, hs2, hn2, sp_at (e := e) (m := m) (by omega)]
      rfl
    rw [he]
    exact this
  · rename_i s'
    split at h
    · rename_i hh; cases hh
    split at h
    · rename_i hs
      have hmem := txtIn_mem hs
      simp only [same] at h
      cases h
      refine knownX_of (by omega) (by omega) ?_
      have hcl : cleanL [s'] = true := by simp [cleanL, clean_mem isL_clean hmem]
      have := ask_tok (t := t) hf hl hV hx hP (f := 57) (args := [s']) (δ := 0) (by simp) (qs57 hmem) (r := Bo (isT true s' (.tok k s n))) (by simp only [atIt, hs, same]) (.inl rfl) hcl
      rw [Nat.add_zero] at this
      rw [subL_clean _ _ hcl]
      exact this
    · cases h
  · rename_i s'
    split at h
    · rename_i hh; cases hh
    split at h
    · rename_i hs
      have hmem := txtIn_mem hs
      simp only [same] at h
      cases h
      refine knownX_of (by omega) (by omega) ?_
      have hcl : cleanL [I 0, s'] = true := by simp [cleanL, clean_mem signL_clean hmem, clean]
      have := ask_tok (t := t) hf hl hV hx hP (f := 96) (args := [I 0, s']) (δ := 0) (by simp) (qs96 hmem) (r := Bo (isT false s' (.tok k s n))) (by simp only [atIt, hs, same]) (.inl rfl) hcl
      rw [Nat.add_zero] at this
      rw [subL_clean _ _ hcl]
      exact this
    · cases h
  · simp only [same] at h
    cases h
    refine knownX_of (by omega) (by omega) ?_
    have := ask_tok (t := t) hf hl hV hx hP (f := 51) (args := []) (δ := 0) (by simp) (by simp [qs]) rfl (.inl rfl) rfl
    rw [Nat.add_zero] at this
    exact this
  · split at h
    · rename_i hh; cases hh
    split at h
    · cases h
    · rename_i hc
      simp only [same] at h
      cases h
      refine knownX_of (by omega) (by omega) ?_
      have := ask_tok (t := t) hf hl hV hx hP (f := 107) (args := []) (δ := 0) (by simp) (by simp [qs]) (r := Bo false) (by simp only [atIt, hc, same]) (.inl rfl) rfl
      rw [Nat.add_zero] at this
      exact this
  · split at h
    · rename_i s0 n0 heq
      cases heq
      split at h
      · cases h
      · rename_i hr
        simp only [same] at h
        cases h
        refine knownX_of (by omega) (by omega) ?_
        have := ask_tok (t := t) hf hl hV hx hP (f := 108) (args := []) (δ := 1) (by simp) (by simp [qs]) (r := s) (by simp only [atIt, hr, same]) (.inr rfl) rfl
        rw [hs1, hP1]
        rw [hs2] at this
        exact this
    · cases h
  · split at h
    · rename_i n1 n0 heq
      cases heq
      simp only [same] at h
      cases h
      refine knownX_of (by omega) (by omega) ?_
      have := ask_tok (t := t) hf hl hV hx hP (f := 141) (args := []) (δ := 1) (by simp) (by simp [qs]) rfl (.inr rfl) rfl
      rw [hs1, hP1]
      rw [hs2] at this
      exact this
    · cases h
  · cases h
  · cases h
end
end Go.Ev.A
