/- Unknown cells, put in: what is known with them holds for all that they may be. -/
import Derived.Test.YtpahaogeenalpaaGreatEvFast
set_option linter.all false
namespace Go.Ev
mutual
def sub (σ : Nat → PV) : PV → PV
  | .unk n => σ n
  | .agg cs => .agg (subL σ cs)
  | .tup cs => .tup (subL σ cs)
  | .sl es ex => .sl (subE σ es) ex
  | .ep cs o => .ep (subL σ cs) o
  | .clo f cs => .clo f (subL σ cs)
  | .bnd f cs => .bnd f (subL σ cs)
  | .v x => .v x
  | .row a b c d e => .row a b c d e
  | .ptr a b => .ptr a b
  | .un => .un
  | .sym n => .sym n
  | .mp n => .mp n
  | .top => .top
def subL (σ : Nat → PV) : List PV → List PV
  | [] => []
  | c :: cs => sub σ c :: subL σ cs
def subE (σ : Nat → PV) : List (List PV) → List (List PV)
  | [] => []
  | e :: es => subL σ e :: subE σ es
end
mutual
/-- no unknown cell in it -/
def clean : PV → Bool
  | .unk _ => false
  | .agg cs => cleanL cs
  | .tup cs => cleanL cs
  | .sl es _ => cleanE es
  | .ep cs _ => cleanL cs
  | .clo _ cs => cleanL cs
  | .bnd _ cs => cleanL cs
  | _ => true
def cleanL : List PV → Bool
  | [] => true
  | c :: cs => clean c && cleanL cs
def cleanE : List (List PV) → Bool
  | [] => true
  | e :: es => cleanL e && cleanE es
end
theorem subL_get (σ : Nat → PV) : ∀ (cs : List PV) (i : Nat), (subL σ cs)[i]? = (cs[i]?).map (sub σ)
  | [], i => by simp [subL]
  | c :: cs, 0 => by simp [subL]
  | c :: cs, i + 1 => by simp [subL, subL_get σ cs i]
theorem subL_len (σ : Nat → PV) : ∀ (cs : List PV), (subL σ cs).length = cs.length
  | [] => rfl
  | c :: cs => by simp [subL, subL_len σ cs]
theorem subE_get (σ : Nat → PV) : ∀ (cs : List (List PV)) (i : Nat), (subE σ cs)[i]? = (cs[i]?).map (subL σ)
  | [], i => by simp [subE]
  | c :: cs, 0 => by simp [subE]
  | c :: cs, i + 1 => by simp [subE, subE_get σ cs i]
theorem subE_len (σ : Nat → PV) : ∀ (cs : List (List PV)), (subE σ cs).length = cs.length
  | [] => rfl
  | c :: cs => by simp [subE, subE_len σ cs]
theorem cleanL_get : ∀ {cs : List PV} {i : Nat} {c : PV}, cleanL cs = true → cs[i]? = some c → clean c = true
  | [], i, c, h, e => by simp at e
  | d :: cs, 0, c, h, e => by simp at e; subst e; simp [cleanL] at h; exact h.1
  | d :: cs, i + 1, c, h, e => by simp [cleanL] at h; exact cleanL_get h.2 (by simpa using e)
theorem cleanE_get : ∀ {cs : List (List PV)} {i : Nat} {c : List PV}, cleanE cs = true → cs[i]? = some c → cleanL c = true
  | [], i, c, h, e => by simp at e
  | d :: cs, 0, c, h, e => by simp at e; subst e; simp [cleanE] at h; exact h.1
  | d :: cs, i + 1, c, h, e => by simp [cleanE] at h; exact cleanE_get h.2 (by simpa using e)
mutual
theorem sub_clean (σ : Nat → PV) : ∀ (p : PV), clean p = true → sub σ p = p
  | .unk _, h => by simp [clean] at h
  | .agg cs, h => by rw [sub, subL_clean σ cs (by simpa [clean] using h)]
  | .tup cs, h => by rw [sub, subL_clean σ cs (by simpa [clean] using h)]
  | .sl es _, h => by rw [sub, subE_clean σ es (by simpa [clean] using h)]
  | .ep cs _, h => by rw [sub, subL_clean σ cs (by simpa [clean] using h)]
  | .clo _ cs, h => by rw [sub, subL_clean σ cs (by simpa [clean] using h)]
  | .bnd _ cs, h => by rw [sub, subL_clean σ cs (by simpa [clean] using h)]
  | .v _, _ => by rw [sub]
  | .row .., _ => by rw [sub]
  | .ptr .., _ => by rw [sub]
  | .un, _ => by rw [sub]
  | .sym _, _ => by rw [sub]
  | .mp _, _ => by rw [sub]
  | .top, _ => by rw [sub]
theorem subL_clean (σ : Nat → PV) : ∀ (cs : List PV), cleanL cs = true → subL σ cs = cs
  | [], _ => rfl
  | c :: cs, h => by simp [cleanL] at h; rw [subL, sub_clean σ c h.1, subL_clean σ cs h.2]
theorem subE_clean (σ : Nat → PV) : ∀ (es : List (List PV)), cleanE es = true → subE σ es = es
  | [], _ => rfl
  | e :: es, h => by simp [cleanE] at h; rw [subE, subL_clean σ e h.1, subE_clean σ es h.2]
end
theorem cellOk_sub {σ : Nat → PV} (hσ : ∀ n, cellOk (σ n) = true) (p : PV) : cellOk (sub σ p) = cellOk p := by
  cases p <;> simp [sub, cellOk]
  exact hσ _

section
variable {w : World}
/-- one way: from E to E', where unknown cells are told of by u -/
theorem VR_to {E E' : Env} (hv : ∀ n, @Env.val E n = @Env.val E' n) {σ : Nat → PV} (hσ : ∀ n, cellOk (σ n) = true) 
    (hu : ∀ n F M y, @VR E w F M (.unk n) y → @VR E' w F M (σ n) y) :
    ∀ {F M p y}, @VR E w F M p y → @VR E' w F M (sub σ p) y := by
  intro F M p y h
  induction h with
  | v hx => rw [sub]; exact .v hx
  | agg hl hc hr ih =>
    rw [sub]
    refine .agg (by rw [subL_len]; exact hl) (fun i c hi => ?_) (fun i c y h1 h2 => ?_)
    · rw [subL_get] at hi
      obtain ⟨d, hd, rfl⟩ := Option.map_eq_some_iff.1 hi
      rw [cellOk_sub hσ]; exact hc i d hd
    · rw [subL_get] at h1
      obtain ⟨d, hd, rfl⟩ := Option.map_eq_some_iff.1 h1
      exact ih i d y hd h2
  | tup hl hr ih =>
    rw [sub]
    refine .tup (by rw [subL_len]; exact hl) (fun i c y h1 h2 => ?_)
    rw [subL_get] at h1
    obtain ⟨d, hd, rfl⟩ := Option.map_eq_some_iff.1 h1
    exact ih i d y hd h2
  | clo hl hr ih =>
    rw [sub]
    refine .clo (by rw [subL_len]; exact hl) (fun i c y h1 h2 => ?_)
    rw [subL_get] at h1
    obtain ⟨d, hd, rfl⟩ := Option.map_eq_some_iff.1 h1
    exact ih i d y hd h2
  | bnd hl hr ih =>
    rw [sub]
    refine .bnd (by rw [subL_len]; exact hl) (fun i c y h1 h2 => ?_)
    rw [subL_get] at h1
    obtain ⟨d, hd, rfl⟩ := Option.map_eq_some_iff.1 h1
    exact ih i d y hd h2
  | un => rw [sub]; exact .un
  | top => rw [sub]; exact .top
  | mp h => rw [sub]; exact .mp h
  | sym => rw [sub, hv]; exact .sym
  | unk h _ => rw [sub]; exact hu _ _ _ _ (@VR.unk E _ _ _ _ _ h)
  | ptr h => rw [sub]; exact .ptr h
  | row h h0 h1 h2 h3 => rw [sub]; exact .row h h0 h1 h2 h3
  | sl h1 h2 h3 h4 h5 ih =>
    rw [sub]
    rename_i M0 es ex b o cap sz f
    have hlen := subE_len σ es
    rw [← hlen]
    refine .sl (f := f) (sz := sz) (by rw [hlen]; exact h1) (by rw [hlen]; exact h2) (fun i e hi => ?_) (fun i j e c hi hj => ?_) (fun i j e c hi hj => ?_)
    · rw [subE_get] at hi
      obtain ⟨d, hd, rfl⟩ := Option.map_eq_some_iff.1 hi
      rw [subL_len]; exact h3 i d hd
    · rw [subE_get] at hi
      obtain ⟨d, hd, rfl⟩ := Option.map_eq_some_iff.1 hi
      rw [subL_get] at hj
      obtain ⟨c', hc, rfl⟩ := Option.map_eq_some_iff.1 hj
      rw [cellOk_sub hσ]
      exact h4 i j d c' hd hc
    · rw [subE_get] at hi
      obtain ⟨d, hd, rfl⟩ := Option.map_eq_some_iff.1 hi
      rw [subL_get] at hj
      obtain ⟨c', hc, rfl⟩ := Option.map_eq_some_iff.1 hj
      exact ih i j d c' hd hc
  | ep h4 h5 ih =>
    rw [sub]
    rename_i f
    refine .ep (f := f) (fun j c hj => ?_) (fun j c hj => ?_)
    · rw [subL_get] at hj
      obtain ⟨c', hc, rfl⟩ := Option.map_eq_some_iff.1 hj
      rw [cellOk_sub hσ]
      exact h4 j c' hc
    · rw [subL_get] at hj
      obtain ⟨c', hc, rfl⟩ := Option.map_eq_some_iff.1 hj
      exact ih j c' hc

/-- the same environment with other unknown cells -/
abbrev Env.put (E : Env) (σ : Nat → PV) (h : ∀ n, (∃ x, σ n = .v x) ∨ ∃ es ex, σ n = .sl es ex) : Env := ⟨E.str, E.int, E.rem, σ, h⟩
theorem form_cell {p : PV} (h : (∃ x, p = .v x) ∨ ∃ es ex, p = .sl es ex) : cellOk p = true := by
  rcases h with ⟨x, rfl⟩ | ⟨es, ex, rfl⟩ <;> rfl

theorem VR_clean {E E' : Env} (hv : ∀ n, @Env.val E n = @Env.val E' n) {F M p y} (hp : clean p = true) (h : @VR E w F M p y) : @VR E' w F M p y := by
  induction h with
  | v hx => exact .v hx
  | agg hl hc hr ih => exact .agg hl hc fun i c y h1 h2 => ih i c y h1 h2 (cleanL_get (by simpa [clean] using hp) h1)
  | tup hl hr ih => exact .tup hl fun i c y h1 h2 => ih i c y h1 h2 (cleanL_get (by simpa [clean] using hp) h1)
  | clo hl hr ih => exact .clo hl fun i c y h1 h2 => ih i c y h1 h2 (cleanL_get (by simpa [clean] using hp) h1)
  | bnd hl hr ih => exact .bnd hl fun i c y h1 h2 => ih i c y h1 h2 (cleanL_get (by simpa [clean] using hp) h1)
  | un => exact .un
  | top => exact .top
  | mp h => exact .mp h
  | sym => rw [hv]; exact .sym
  | unk h _ => simp [clean] at hp
  | ptr h => exact .ptr h
  | row h h0 h1 h2 h3 => exact .row h h0 h1 h2 h3
  | sl h1 h2 h3 h4 h5 ih => exact .sl h1 h2 h3 h4 fun i j e c hi hj => ih i j e c hi hj (cleanL_get (cleanE_get (by simpa [clean] using hp) hi) hj)
  | ep h4 h5 ih => exact .ep h4 fun j c hj => ih j c hj (cleanL_get (by simpa [clean] using hp) hj)

mutual
theorem VR_from {E' E : Env} (hv : ∀ n, @Env.val E n = @Env.val E' n) {σ : Nat → PV} (hσ : ∀ n, cellOk (σ n) = true)
    (hu : ∀ n F M y, @VR E' w F M (σ n) y → @VR E w F M (.unk n) y) :
    ∀ (p : PV) {F M y}, @VR E' w F M (sub σ p) y → @VR E w F M p y
  | .unk n, F, M, y, h => by rw [sub] at h; exact hu _ _ _ _ h
  | .agg cs, F, M, y, h => by
    rw [sub] at h
    cases h with
    | agg hl hc hr =>
      refine .agg (by rw [subL_len] at hl; exact hl) (fun i c hi => ?_) (fun i c y h1 h2 => ?_)
      · rw [← cellOk_sub hσ]; exact hc i _ (by rw [subL_get, hi]; rfl)
      · exact VRL_from hv hσ hu cs c (List.mem_of_getElem? h1) (hr i _ y (by rw [subL_get, h1]; rfl) h2)
  | .tup cs, F, M, y, h => by
    rw [sub] at h
    cases h with
    | tup hl hr =>
      refine .tup (by rw [subL_len] at hl; exact hl) (fun i c y h1 h2 => ?_)
      exact VRL_from hv hσ hu cs c (List.mem_of_getElem? h1) (hr i _ y (by rw [subL_get, h1]; rfl) h2)
  | .clo f cs, F, M, y, h => by
    rw [sub] at h
    cases h with
    | clo hl hr =>
      refine .clo (by rw [subL_len] at hl; exact hl) (fun i c y h1 h2 => ?_)
      exact VRL_from hv hσ hu cs c (List.mem_of_getElem? h1) (hr i _ y (by rw [subL_get, h1]; rfl) h2)
  | .bnd f cs, F, M, y, h => by
    rw [sub] at h
    cases h with
    | bnd hl hr =>
      refine .bnd (by rw [subL_len] at hl; exact hl) (fun i c y h1 h2 => ?_)
      exact VRL_from hv hσ hu cs c (List.mem_of_getElem? h1) (hr i _ y (by rw [subL_get, h1]; rfl) h2)
  | .sl es ex, F, M, y, h => by
    rw [sub] at h
    generalize hss : subE σ es = ss at h
    cases h with
    | sl h1 h2 h3 h4 h5 =>
      rename_i b o cap sz f
      subst hss
      rw [subE_len] at *
      refine .sl (f := f) (sz := sz) h1 h2 (fun i e hi => ?_) (fun i j e c hi hj => ?_) (fun i j e c hi hj => ?_)
      · have := h3 i (subL σ e) (by rw [subE_get, hi]; rfl)
        rwa [subL_len] at this
      · have := h4 i j (subL σ e) (sub σ c) (by rw [subE_get, hi]; rfl) (by rw [subL_get, hj]; rfl)
        rw [cellOk_sub hσ] at this
        exact this
      · exact VRE_from hv hσ hu es e (List.mem_of_getElem? hi) c (List.mem_of_getElem? hj) (h5 i j (subL σ e) (sub σ c) (by rw [subE_get, hi]; rfl) (by rw [subL_get, hj]; rfl))
  | .ep cs o, F, M, y, h => by
    rw [sub] at h
    cases h with
    | ep h4 h5 =>
      rename_i f
      refine .ep (f := f) (fun j c hj => ?_) (fun j c hj => ?_)
      · have := h4 j (sub σ c) (by rw [subL_get, hj]; rfl)
        rw [cellOk_sub hσ] at this
        exact this
      · exact VRL_from hv hσ hu cs c (List.mem_of_getElem? hj) (h5 j (sub σ c) (by rw [subL_get, hj]; rfl))
  | .v _, F, M, y, h => by rw [sub] at h; cases h with | v hx => exact .v hx
  | .row .., F, M, y, h => by rw [sub] at h; cases h with | row h h0 h1 h2 h3 => exact .row h h0 h1 h2 h3
  | .ptr .., F, M, y, h => by rw [sub] at h; cases h with | ptr h => exact .ptr h
  | .un, F, M, y, h => by rw [sub] at h; cases h; exact .un
  | .sym _, F, M, y, h => by rw [sub] at h; cases h; rw [← hv]; exact .sym
  | .mp _, F, M, y, h => by rw [sub] at h; cases h with | mp h => exact .mp h
  | .top, F, M, y, h => by rw [sub] at h; cases h; exact .top
theorem VRL_from {E' E : Env} (hv : ∀ n, @Env.val E n = @Env.val E' n) {σ : Nat → PV} (hσ : ∀ n, cellOk (σ n) = true)
    (hu : ∀ n F M y, @VR E' w F M (σ n) y → @VR E w F M (.unk n) y) :
    ∀ (cs : List PV) (c : PV), c ∈ cs → ∀ {F M y}, @VR E' w F M (sub σ c) y → @VR E w F M c y
  | [], c, hc, _, _, _, _ => by simp at hc
  | d :: cs, c, hc, F, M, y, h => by
    rcases List.mem_cons.1 hc with e | hc
    · rw [e] at h ⊢; exact VR_from hv hσ hu d h
    · exact VRL_from hv hσ hu cs c hc h
theorem VRE_from {E' E : Env} (hv : ∀ n, @Env.val E n = @Env.val E' n) {σ : Nat → PV} (hσ : ∀ n, cellOk (σ n) = true)
    (hu : ∀ n F M y, @VR E' w F M (σ n) y → @VR E w F M (.unk n) y) :
    ∀ (es : List (List PV)) (e : List PV), e ∈ es → ∀ (c : PV), c ∈ e → ∀ {F M y}, @VR E' w F M (sub σ c) y → @VR E w F M c y
  | [], e, he, c, hc, _, _, _, _ => by simp at he
  | d :: es, e, he, c, hc, F, M, y, h => by
    rcases List.mem_cons.1 he with g | he
    · rw [g] at hc; exact VRL_from hv hσ hu d c hc h
    · exact VRE_from hv hσ hu es e he c hc h
end
end

/-- what may stand for an unknown cell -/
structure Fit (σ : Nat → PV) : Prop where
  form : ∀ n, (∃ x, σ n = .v x) ∨ ∃ es ex, σ n = .sl es ex
  clean : ∀ n, clean (σ n) = true

theorem VR_form_any [Env] {w : World} {F : Fz} {M M' : Mp} {p : PV} {y : Value} (hp : (∃ x, p = .v x) ∨ ∃ es ex, p = .sl es ex) (h : VR w F M p y) : VR w F M' p y := by
  rcases hp with ⟨x, rfl⟩ | ⟨es, ex, rfl⟩
  · cases h with | v hx => exact .v hx
  · cases h with | sl h1 h2 h3 h4 h5 => exact .sl h1 h2 h3 h4 h5

theorem unk_to {E : Env} {σ : Nat → PV} (hσ : Fit σ) {w : World} (n : Nat) (F : Fz) (M : Mp) (y : Value) (h : @VR (E.put σ hσ.form) w F M (.unk n) y) : @VR E w F M (σ n) y := by
  cases h with
  | unk h => exact VR_form_any (hσ.form n) (VR_clean (E := E.put σ hσ.form) (E' := E) (fun _ => rfl) (hσ.clean n) h)
theorem unk_from {E : Env} {σ : Nat → PV} (hσ : Fit σ) {w : World} (n : Nat) (F : Fz) (M : Mp) (y : Value) (h : @VR E w F M (σ n) y) : @VR (E.put σ hσ.form) w F M (.unk n) y :=
  @VR.unk (E.put σ hσ.form) _ _ _ _ _ (@VR_form_any (E.put σ hσ.form) _ _ _ _ _ _ (hσ.form n) (VR_clean (E := E) (E' := E.put σ hσ.form) (fun _ => rfl) (hσ.clean n) h))

theorem VRs_sub {E : Env} {σ : Nat → PV} (hσ : Fit σ) {w : World} {F : Fz} {M : Mp} {ds : List PV} {ys : List Value} :
    @VRs (E.put σ hσ.form) w F M ds ys ↔ @VRs E w F M (subL σ ds) ys := by
  have hc := fun n => form_cell (hσ.form n)
  constructor
  · intro h
    refine ⟨by rw [subL_len]; exact h.1, fun i c y h1 h2 => ?_⟩
    rw [subL_get] at h1
    obtain ⟨d, hd, rfl⟩ := Option.map_eq_some_iff.1 h1
    exact VR_to (E := E.put σ hσ.form) (E' := E) (fun _ => rfl) hc (unk_to hσ) (h.2 i d y hd h2)
  · intro h
    refine ⟨by have := h.1; rw [subL_len] at this; exact this, fun i c y h1 h2 => ?_⟩
    exact VR_from (E := E.put σ hσ.form) (E' := E) (fun _ => rfl) hc (unk_from hσ) c (h.2 i _ y (by rw [subL_get, h1]; rfl) h2)

/-- a fact with unknown cells is one with what stands there -/
theorem Known.sub {E : Env} {σ : Nat → PV} (hσ : Fit σ) {P : Program} {f : Nat} {ds : List PV} {q : PV} :
    @Known (E.put σ hσ.form) P f ds q ↔ @Known E P f (subL σ ds) (Ev.sub σ q) := by
  have hc := fun n => form_cell (hσ.form n)
  constructor
  · intro h
    refine ⟨h.1, fun w F args hF hv => Calls.mono (h.2 w F args hF ((VRs_sub hσ).2 hv)) ?_⟩
    rintro e w' ⟨v, F', rfl, h1, h2, h3⟩
    exact ⟨v, F', rfl, VR_to (E := E.put σ hσ.form) (E' := E) (fun _ => rfl) hc (unk_to hσ) h1, h2, h3⟩
  · intro h
    refine ⟨h.1, fun w F args hF hv => Calls.mono (h.2 w F args hF ((VRs_sub hσ).1 hv)) ?_⟩
    rintro e w' ⟨v, F', rfl, h1, h2, h3⟩
    exact ⟨v, F', rfl, VR_from (E := E.put σ hσ.form) (E' := E) (fun _ => rfl) hc (unk_from hσ) q h1, h2, h3⟩
end Go.Ev
