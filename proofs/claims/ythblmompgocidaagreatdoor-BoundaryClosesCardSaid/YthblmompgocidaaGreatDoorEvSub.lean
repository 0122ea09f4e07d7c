/- Unknown cells, put in: what is known with them holds for all that they may be. -/
import Derived.Test.YthblmompgocidaaGreatDoorEvFast
set_option linter.all false
/- Unknown cells, put in: what is known with them holds for all that they may be. -/
namespace Go.Ev
mutual
def sub (σ : Nat → PV) : PV → PV
  | .unk n => σ n
  | .agg cs => .agg (subL σ cs)
  | .tup cs => .tup (subL σ cs)
  | .sl es ex => .sl (subE σ es) ex
  | .ep cs o => .ep (subL σ cs) o
  | .clo f cs => .clo f (subL σ cs)
  | .bnd f cs => .bnd f (subL σ cs)
  | .v x => .v x
  | .row a b c d e => .row a b c d e
  | .ptr a b => .ptr a b
  | .un => .un
  | .sym n => .sym n
  | .mp n => .mp n
  | .top => .top
def subL (σ : Nat → PV) : List PV → List PV
  | [] => []
  | c :: cs => sub σ c :: subL σ cs
def subE (σ : Nat → PV) : List (List PV) → List (List PV)
  | [] => []
  | e :: es => subL σ e :: subE σ es
end
mutual
/-- no unknown cell in it -/
def clean : PV → Bool
  | .unk _ => false
  | .agg cs => cleanL cs
  | .tup cs => cleanL cs
  | .sl es _ => cleanE es
  | .ep cs _ => cleanL cs
  | .clo _ cs => cleanL cs
  | .bnd _ cs => cleanL cs
  | _ => true
def cleanL : List PV → Bool
  | [] => true
  | c :: cs => clean c && cleanL cs
def cleanE : List (List PV) → Bool
  | [] => true
  | e :: es => cleanL e && cleanE es
end
theorem subL_get (σ : Nat → PV) : ∀ (cs : List PV) (i : Nat), (subL σ cs)[i]? = (cs[i]?).map (sub σ)
  | [], i => by simp [subL]
  | c :: cs, 0 => by simp [subL]
  | c :: cs, i + 1 => by simp [subL, subL_get σ cs i]
theorem subL_len (σ : Nat → PV) : ∀ (cs : List PV), (subL σ cs).length = cs.length
  | [] => rfl
  | c :: cs => by simp [subL, subL_len σ cs]
theorem subE_get (σ : Nat → PV) : ∀ (cs : List (List PV)) (i : Nat), (subE σ cs)[i]? = (cs[i]?).map (subL σ)
  | [], i => by simp [subE]
  | c :: cs, 0 => by simp [subE]
  | c :: cs, i + 1 => by simp [subE, subE_get σ cs i]
theorem subE_len (σ : Nat → PV) : ∀ (cs : List (List PV)), (subE σ cs).length = cs.length
  | [] => rfl
  | c :: cs => by simp [subE, subE_len σ cs]
theorem cleanL_get : ∀ {cs : List PV} {i : Nat} {c : PV}, cleanL cs = true → cs[i]? = some c → clean c = true
  | [], i, c, h, e => by simp at e
  | d :: cs, 0, c, h, e => by simp at e; subst e; simp [cleanL] at h; exact h.1
  | d :: cs, i + 1, c, h, e => by simp [cleanL] at h; exact cleanL_get h.2 (by simpa using e)
theorem cleanE_get : ∀ {cs : List (List PV)} {i : Nat} {c : List PV}, cleanE cs = true → cs[i]? = some c → cleanL c = true
  | [], i, c, h, e => by simp at e
  | d :: cs, 0, c, h, e => by simp at e; subst e; simp [cleanE] at h; exact h.1
  | d :: cs, i + 1, c, h, e => by simp [cleanE] at h; exact cleanE_get h.2 (by simpa using e)
mutual
theorem sub_clean (σ : Nat → PV) : ∀ (p : PV), clean p = true → sub σ p = p
  | .unk _, h => by simp [clean] at h
  | .agg cs, h => by rw [sub, subL_clean σ cs (by simpa [clean] using h)]
  | .tup cs, h => by rw [sub, subL_clean σ cs (by simpa [clean] using h)]
  | .sl es _, h => by rw [sub, subE_clean σ es (by simpa [clean] using h)]
  | .ep cs _, h => by rw [sub, subL_clean σ cs (by simpa [clean] using h)]
  | .clo _ cs, h => by rw [sub, subL_clean σ cs (by simpa [clean] using h)]
  | .bnd _ cs, h => by rw [sub, subL_clean σ cs (by simpa [clean] using h)]
  | .v _, _ => by rw [sub]
  | .row .., _ => by rw [sub]
  | .ptr .., _ => by rw [sub]
  | .un, _ => by rw [sub]
  | .sym _, _ => by rw [sub]
  | .mp _, _ => by rw [sub]
  | .top, _ => by rw [sub]
theorem subL_clean (σ : Nat → PV) : ∀ (cs : List PV), cleanL cs = true → subL σ cs = cs
  | [], _ => rfl
  | c :: cs, h => by simp [cleanL] at h; rw [subL, sub_clean σ c h.1, subL_clean σ cs h.2]
theorem subE_clean (σ : Nat → PV) : ∀ (es : List (List PV)), cleanE es = true → subE σ es = es
  | [], _ => rfl
  | e :: es, h => by simp [cleanE] at h; rw [subE, subL_clean σ e h.1, subE_clean σ es h.2]
end
theorem cellOk_sub {σ : Nat → PV} (hσ : ∀ n, cellOk (σ n) = true) (p : PV) : cellOk (sub σ p) = cellOk p := by
  cases p <;> simp [sub, cellOk]
  exact hσ _

section
variable {w : World}
/-- one way: from E to E', where unknown cells are told of by u -/
theorem VR_to {E E' : Env} (hv : ∀ n, @Env.val E n = @Env.val E' n) {σ : Nat → PV} (hσ : ∀ n, cellOk (σ n) = true) 
    (hu : ∀ n F M y, @VR E w F M (.unk n) y → @VR E' w F M (σ n) y) :
    ∀ {F M p y}, @VR E w F M p y → @VR E' w F M (sub σ p) y := by
  intro F M p y h
  induction h with
  | v hx => rw [sub]; exact .v hx
  | agg hl hc hr ih =>
    rw [sub]
    refine .agg (by rw [subL_len]; exact hl) (fun i c hi => ?_) (fun i c y h1 h2 => ?_)
    · rw [subL_get] at hi
      obtain ⟨d, hd, rfl⟩ := Option.map_eq_some_iff.1 hi
      rw [cellOk_sub hσ]; exact hc i d hd
    · rw [subL_get] at h1
      obtain ⟨d, hd, rfl⟩ := Option.map_eq_some_iff.1 h1
      exact ih i d y hd h2
  | tup hl hr ih =>
    rw [sub]
    refine .tup (by rw [subL_len]; exact hl) (fun i c y h1 h2 => ?_)
    rw [subL_get] at h1
    obtain ⟨d, hd, rfl⟩ := Option.map_eq_some_iff.1 h1
    exact ih i d y hd h2
  | clo hl hr ih =>
    rw [sub]
    refine .clo (by rw [subL_len]; exact hl) (fun i c y h1 h2 => ?_)
    rw [subL_get] at h1
    obtain ⟨d, hd, rfl⟩ := Option.map_eq_some_iff.1 h1
    exact ih i d y hd h2
  | bnd hl hr ih =>
    rw [sub]
    refine .bnd (by rw [subL_len]; exact hl) (fun i c y h1 h2 => ?_)
    rw [subL_get] at h1
    obtain ⟨d, hd, rfl⟩ := Option.map_eq_some_iff.1 h1
    exact ih i d y hd h2
  | un => rw [sub]; exact .un
  | top => rw [sub]; exact .top
  | mp h => rw [sub]; exact .mp h
  | sym => rw [sub, hv]; exact .sym
  | unk h _ => rw [sub]; exact hu _ _ _ _ (@VR.unk E _ _ _ _ _ h)
  | ptr h => rw [sub]; exact .ptr h
  | row h h0 h1 h2 h3 => rw [sub]; exact .row h h0 h1 h2 h3
  | sl h1 h2 h3 h4 h5 ih =>
    rw [sub]
    rename_i M0 es ex b o cap sz f
    have hlen := subE_len σ es
    rw [← hlen]
    refine .sl (f := f) (sz := sz) (by rw [hlen]; exact h1) (by rw [hlen]; exact h2) (fun i e hi => ?_) (fun i j e c hi hj => ?_) (fun i j e c hi hj => ?_)
    · rw [subE_get] at hi
      obtain ⟨d, hd, rfl⟩ := Option.map_eq_some_iff.1 hi
      rw [subL_len]; exact h3 i d hd
    · rw [subE_get] at hi
      obtain ⟨d, hd, rfl⟩ := Option.map_eq_some_iff.1 hi
      rw [subL_get] at hj
      obtain ⟨c', hc, rfl⟩ := Option.map_eq_some_iff.1 hj
      rw [cellOk_sub hσ]
      exact h4 i j d c' hd hc
    · rw [subE_get] at hi
      obtain ⟨d, hd, rfl⟩ := Option.map_eq_some_iff.1 hi
      rw [subL_get] at hj
      obtain ⟨c', hc, rfl⟩ := Option.map_eq_some_iff.1 hj
      exact ih i j d c' hd hc
  | ep h4 h5 ih =>
    rw [sub]
    rename_i f
    refine .ep (f := f) (fun j c hj => ?_) (fun j c hj => ?_)
    · rw [subL_get] at hj
      obtain ⟨c', hc, rfl⟩ := Option.map_eq_some_iff.1 hj
      rw [cellOk_sub hσ]
      exact h4 j c' hc
    · rw [subL_get] at hj
      obtain ⟨c', hc, rfl⟩ := Option.map_eq_some_iff.1 hj
      exact ih j c' hc

/-- the same environment with other unknown cells -/
abbrev Env.put (E : Env) (σ : Nat → PV) (h : ∀ n, (∃ x, σ n = .v x) ∨ ∃ es ex, σ n = .sl es ex) : Env := ⟨E.str, E.int, E.rem, σ, h⟩
theorem form_cell {p : PV} (h : (∃ x, p = .v x) ∨ ∃ es ex, p = .sl es ex) : cellOk p = true := by
  rcases h with ⟨x, rfl⟩ | ⟨es, ex, rfl⟩ <;> rfl

theorem VR_clean {E E' : Env} (hv : ∀ n, @Env.val E n = @Env.val E' n) {F M p y} (hp : clean p = true) (h : @VR E w F M p y) : @VR E' w F M p y := by
  induction h with
  | v hx => exact .v hx
  | agg hl hc hr ih => exact .agg hl hc fun i c y h1 h2 => ih i c y h1 h2 (cleanL_get (by simpa [clean] using hp) h1)
  | tup hl hr ih => exact .tup hl fun i c y h1 h2 => ih i c y h1 h2 (cleanL_get (by simpa [clean] using hp) h1)
  | clo hl hr ih => exact .clo hl fun i c y h1 h2 => ih i c y h1 h2 (cleanL_get (by simpa [clean] using hp) h1)
  | bnd hl hr ih => exact .bnd hl fun i c y h1 h2 => ih i c y h1 h2 (cleanL_get (by simpa [clean] using hp) h1)
  | un => exact .un
  | top => exact .top
  | mp h => exact .mp h
  | sym => rw [hv]; exact .sym
  | unk h _ => simp [clean] at hp
  | ptr h => exact .ptr h
  | row h h0 h1 h2 h3 => exact .row h h0 h1 h2 h3
  | sl h1 h2 h3 h4 h5 ih => exact .sl h1 h2 h3 h4 fun i j e c hi hj => ih i j e c hi hj (cleanL_get (cleanE_get (by simpa [clean] using hp) hi) hj)
  | ep h4 h5 ih => exact .ep h4 fun j c hj => ih j c hj (cleanL_get (by simpa [clean] using hp) hj)

mutual
theorem VR_from {E' E : Env} (hv : ∀ n, @Env.val E n = @Env.val E' n) {σ : Nat → PV} (hσ : ∀ n, cellOk (σ n) = true)
    (hu : ∀ n F M y, @VR E' w F M (σ n) y → @VR E w F M (.unk n) y) :
    ∀ (p : PV) {F M y}, @VR E' w F M (sub σ p) y → @VR E w F M p y
  | .unk n, F, M, y, h => by rw [sub] at h; exact hu _ _ _ _ h
  | .agg cs, F, M, y, h => by
    rw [sub] at h
    cases h with
    | agg hl hc hr =>
      refine .agg (by rw [subL_len] at hl; exact hl) (fun i c hi => ?_) (fun i c y h1 h2 => ?_)
      · rw [← cellOk_sub hσ]; exact hc i _ (by rw [subL_get, hi]; rfl)
      · exact VRL_from hv hσ hu cs c (List.mem_of_getElem? h1) (hr i _ y (by rw [subL_get, h1]; rfl) h2)
  | .tup cs, F, M, y, h => by
    rw [sub] at h
    cases h with
    | tup hl hr =>
      refine .tup (by rw [subL_len] at hl; exact hl) (fun i c y h1 h2 => ?_)
      exact VRL_from hv hσ hu cs c (List.mem_of_getElem? h1) (hr i _ y (by rw [subL_get, h1]; rfl) h2)
  | .clo f cs, F, M, y, h => by
    rw [sub] at h
    cases h with
    | clo hl hr =>
      refine .clo (by rw [subL_len] at hl; exact hl) (fun i c y h1 h2 => ?_)
      exact VRL_from hv hσ hu cs c (List.mem_of_getElem? h1) (hr i _ y (by rw [subL_get, h1]; rfl) h2)
  | .bnd f cs, F, M, y, h => by
    rw [sub] at h
    cases h with
    | bnd hl hr =>
      refine .bnd (by rw [subL_len] at hl; exact hl) (fun i c y h1 h2 => ?_)
      exact VRL_from hv hσ hu cs c (List.mem_of_getElem? h1) (hr i _ y (by rw [subL_get, h1]; rfl) h2)
  | .sl es ex, F, M, y, h => by
    rw [sub] at h
    generalize hss : subE σ es = ss at h
    cases h with
    | sl h1 h2 h3 h4 h5 =>
      rename_i b o cap sz f
      subst hss
      rw [subE_len] at *
      refine .sl (f := f) (sz := sz) h1 h2 (fun i e hi => ?_) (fun i j e c hi hj => ?_) (fun i j e c hi hj => ?_)
      · have := h3 i (subL σ e) (by rw [subE_get, hi]; rfl)
        rwa [subL_len] at this
      · have := h4 i j (subL σ e) (sub σ c) (by rw [subE_get, hi]; rfl) (by rw [subL_get, hj]; rfl)
        rw [cellOk_sub hσ] at this
        exact this
      · exact VRE_from hv hσ hu es e (List.mem_of_getElem? hi) c (List.mem_of_getElem? hj) (h5 i j (subL σ e) (sub σ c) (by rw [subE_get, hi]; rfl) (by rw [subL_get, hj]; rfl))
  | .ep cs o, F, M, y, h => by
    rw [sub] at h
    cases h with
    | ep h4 h5 =>
      rename_i f
      refine .ep (f := f) (fun j c hj => ?_) (fun j c hj => ?_)
      · have := h4 j (sub σ c) (by rw [subL_get, hj]; rfl)
        rw [cellOk_sub hσ] at this
        exact this
      · exact VRL_from hv hσ hu cs c (List.mem_of_getElem? hj) (h5 j (sub σ c) (by rw [subL_get, hj]; rfl))
  | .v _, F, M, y, h => by rw [sub] at h; cases h with | v hx => exact .v hx
  | .row .., F, M, y, h => by rw [sub] at h; cases h with | row h h0 h1 h2 h3 => exact .row h h0 h1 h2 h3
  | .ptr .., F, M, y, h => by rw [sub] at h; cases h with | ptr h => exact .ptr h
  | .un, F, M, y, h => by rw [sub] at h; cases h; exact .un
  | .sym _, F, M, y, h => by rw [sub] at h; cases h; rw [← hv]; exact .sym
  | .mp _, F, M, y, h => by rw [sub] at h; cases h with | mp h => exact .mp h
  | .top, F, M, y, h => by rw [sub] at h; cases h; exact .top
theorem VRL_from {E' E : Env} (hv : ∀ n, @Env.val E n = @Env.val E' n) {σ : Nat → PV} (hσ : ∀ n, cellOk (σ n) = true)
    (hu : ∀ n F M y, @VR E' w F M (σ n) y → @VR E w F M (.unk n) y) :
    ∀ (cs : List PV) (c : PV), c ∈ cs → ∀ {F M y}, @VR E' w F M (sub σ c) y → @VR E w F M c y
  | [], c, hc, _, _, _, _ => by simp at hc
  | d :: cs, c, hc, F, M, y, h => by
    rcases List.mem_cons.1 hc with e | hc
    · rw [e] at h ⊢; exact VR_from hv hσ hu d h
    · exact VRL_from hv hσ hu cs c hc h
theorem VRE_from {E' E : Env} (hv : ∀ n, @Env.val E n = @Env.val E' n) {σ : Nat → PV} (hσ : ∀ n, cellOk (σ n) = true)
    (hu : ∀ n F M y, @VR E' w F M (σ n) y → @VR E w F M (.unk n) y) :
    ∀ (es : List (List PV)) (e : List PV), e ∈ es → ∀ (c : PV), c ∈ e → ∀ {F M y}, @VR E' w F M (sub σ c) y → @VR E w F M c y
  | [], e, he, c, hc, _, _, _, _ => by simp at he
  | d :: es, e, he, c, hc, F, M, y, h => by
    rcases List.mem_cons.1 he with g | he
    · rw [g] at hc; exact VRL_from hv hσ hu d c hc h
    · exact VRE_from hv hσ hu es e he c hc h
end
end

/-- what may stand for an unknown cell -/
structure Fit (σ : Nat → PV) : Prop where
  form : ∀ n, (∃ x, σ n = .v x) ∨ ∃ es ex, σ n = .sl es ex
  clean : ∀ n, clean (σ n) = true

theorem VR_form_any [Env] {w : World} {F : Fz} {M M' : Mp} {p : PV} {y : Value} (hp : (∃ x, p = .v x) ∨ ∃ es ex, p = .sl es ex) (h : VR w F M p y) : VR w F M' p y := by
  rcases hp with ⟨x, rfl⟩ | ⟨es, ex, rfl⟩
  · cases h with | v hx => exact .v hx
  · cases h with | sl h1 h2 h3 h4 h5 => exact .sl h1 h2 h3 h4 h5

theorem unk_to {E : Env} {σ : Nat → PV} (hσ : Fit σ) {w : World} (n : Nat) (F : Fz) (M : Mp) (y : Value) (h : @VR (E.put σ hσ.form) w F M (.unk n) y) : @VR E w F M (σ n) y := by
  cases h with
  | unk h => exact VR_form_any (hσ.form n) (VR_clean (E := E.put σ hσ.form) (E' := E) (fun _ => rfl) (hσ.clean n) h)
theorem unk_from {E : Env} {σ : Nat → PV} (hσ : Fit σ) {w : World} (n : Nat) (F : Fz) (M : Mp) (y : Value) (h : @VR E w F M (σ n) y) : @VR (E.put σ hσ.form) w F M (.unk n) y :=
  @VR.unk (E.put σ hσ.form) _ _ _ _ _ (@VR_form_any (E.put σ hσ.form) _ _ _ _ _ _ (hσ.form n) (VR_clean (E := E) (E' := E.put σ hσ.form) (fun _ => rfl) (hσ.clean n) h))

theorem VRs_sub {E : Env} {σ : Nat → PV} (hσ : Fit σ) {w : World} {F : Fz} {M : Mp} {ds : List PV} {ys : List Value} :
    @VRs (E.put σ hσ.form) w F M ds ys ↔ @VRs E w F M (subL σ ds) ys := by
  have hc := fun n => form_cell (hσ.form n)
  constructor
  · intro h
    refine ⟨by rw [subL_len]; exact h.1, fun i c y h1 h2 => ?_⟩
    rw [subL_get] at h1
    obtain ⟨d, hd, rfl⟩ := Option.map_eq_some_iff.1 h1
    exact VR_to (E := E.put σ hσ.form) (E' := E) (fun _ => rfl) hc (unk_to hσ) (h.2 i d y hd h2)
  · intro h
    refine ⟨by have := h.1; rw [subL_len] at this; exact this, fun i c y h1 h2 => ?_⟩
    exact VR_from (E := E.put σ hσ.form) (E' := E) (fun _ => rfl) hc (unk_from hσ) c (h.2 i _ y (by rw [subL_get, h1]; rfl) h2)

/-- a fact with unknown cells is one with what stands there -/
theorem Known.sub {E : Env} {σ : Nat → PV} (hσ : Fit σ) {P : Program} {f : Nat} {ds : List PV} {q : PV} :
    @Known (E.put σ hσ.form) P f ds q ↔ @Known E P f (subL σ ds) (Ev.sub σ q) := by
  have hc := fun n => form_cell (hσ.form n)
  constructor
  · intro h
    refine ⟨h.1, fun w F args hF hv => Calls.mono (h.2 w F args hF ((VRs_sub hσ).2 hv)) ?_⟩
    rintro e w' ⟨v, F', rfl, h1, h2, h3⟩
    exact ⟨v, F', rfl, VR_to (E := E.put σ hσ.form) (E' := E) (fun _ => rfl) hc (unk_to hσ) h1, h2, h3⟩
  · intro h
    refine ⟨h.1, fun w F args hF hv => Calls.mono (h.2 w F args hF ((VRs_sub hσ).1 hv)) ?_⟩
    rintro e w' ⟨v, F', rfl, h1, h2, h3⟩
    exact ⟨v, F', rfl, VR_from (E := E.put σ hσ.form) (E' := E) (fun _ => rfl) hc (unk_from hσ) q h1, h2, h3⟩

theorem HS_to {E : Env} {σ : Nat → PV} (hσ : Fit σ) {w : World} {F : Fz} {p : Pl} {cs : List PV} {n ty : Nat}
    (h : @HS (E.put σ hσ.form) ⟨[(0, ⟨cs, n, false, 0, ty⟩)], 1, []⟩ w F (noMap.up 0 p)) : @HS E ⟨[(0, ⟨subL σ cs, n, false, 0, ty⟩)], 1, []⟩ w F (noMap.up 0 p) := by
  have hc := fun n => form_cell (hσ.form n)
  have hget : ∀ (ds : List PV) i b', Hp.get ⟨[(0, ⟨ds, n, false, 0, ty⟩)], 1, []⟩ i = some b' → i = 0 ∧ b' = ⟨ds, n, false, 0, ty⟩ := by
    intro ds i b' h
    unfold Hp.get at h
    rw [Al.get_cons] at h
    split at h
    · rename_i e; cases h; exact ⟨e.symm, rfl⟩
    · cases h
  refine ⟨fun i b' q h' hM => ?_, fun i j bi bj q q' hi hj _ _ _ => ((hget _ i bi hi).1.trans (hget _ j bj hj).1.symm), fun i q h' => @HS.lt (E.put σ hσ.form) _ _ _ _ h i q h', fun i b' h' => ?_, @HS.fw (E.put σ hσ.form) _ _ _ _ h, HM.nil⟩
  · obtain ⟨rfl, rfl⟩ := hget _ i b' h'
    obtain ⟨_, rfl⟩ := up_some hM
    have hb := @HS.br (E.put σ hσ.form) _ _ _ _ h 0 _ q rfl rfl
    obtain ⟨c, e, k1, k2, k3, k4⟩ := @BR.blk (E.put σ hσ.form) _ _ _ _ _ hb
    have hsz : q.sz = n := @BR.sz (E.put σ hσ.form) _ _ _ _ _ hb
    have hlo : q.loose = false := @BR.loose (E.put σ hσ.form) _ _ _ _ _ hb
    refine ⟨by rw [subL_len]; exact @BR.n (E.put σ hσ.form) _ _ _ _ _ hb, hsz, hlo, ⟨c, e, k1, k2, k3, fun o x hx => ?_⟩, fun o ho => @BR.nf (E.put σ hσ.form) _ _ _ _ _ hb o ho, ⟨(@BR.ty (E.put σ hσ.form) _ _ _ _ _ hb).1, (@BR.ty (E.put σ hσ.form) _ _ _ _ _ hb).2⟩⟩
    rw [subL_get] at hx
    obtain ⟨d, hd, rfl⟩ := Option.map_eq_some_iff.1 hx
    obtain ⟨g1, y, g2, g3⟩ := k4 o d hd
    exact ⟨by rw [cellOk_sub hc]; exact g1, y, g2, VR_to (E := E.put σ hσ.form) (E' := E) (fun _ => rfl) hc (unk_to hσ) g3⟩
  · obtain ⟨rfl, _⟩ := hget _ i b' h'
    exact Nat.one_pos
theorem HS_from {E : Env} {σ : Nat → PV} (hσ : Fit σ) {w : World} {F : Fz} {p : Pl} {cs : List PV} {n ty : Nat}
    (h : @HS E ⟨[(0, ⟨subL σ cs, n, false, 0, ty⟩)], 1, []⟩ w F (noMap.up 0 p)) : @HS (E.put σ hσ.form) ⟨[(0, ⟨cs, n, false, 0, ty⟩)], 1, []⟩ w F (noMap.up 0 p) := by
  have hc := fun n => form_cell (hσ.form n)
  have hget : ∀ (ds : List PV) i b', Hp.get ⟨[(0, ⟨ds, n, false, 0, ty⟩)], 1, []⟩ i = some b' → i = 0 ∧ b' = ⟨ds, n, false, 0, ty⟩ := by
    intro ds i b' h
    unfold Hp.get at h
    rw [Al.get_cons] at h
    split at h
    · rename_i e; cases h; exact ⟨e.symm, rfl⟩
    · cases h
  refine @HS.mk (E.put σ hσ.form) _ _ _ _ (fun i b' q h' hM => ?_) (fun i j bi bj q q' hi hj _ _ _ => ((hget _ i bi hi).1.trans (hget _ j bj hj).1.symm)) (fun i q h' => @HS.lt E _ _ _ _ h i q h') (fun i b' h' => ?_) (@HS.fw E _ _ _ _ h) (@HM.nil (E.put σ hσ.form) _ _ _ _)
  · obtain ⟨rfl, rfl⟩ := hget _ i b' h'
    obtain ⟨_, rfl⟩ := up_some hM
    have hb := @HS.br E _ _ _ _ h 0 _ q rfl rfl
    obtain ⟨c, e, k1, k2, k3, k4⟩ := @BR.blk E _ _ _ _ _ hb
    have hn := @BR.n E _ _ _ _ _ hb
    rw [show (Blk.cells ⟨subL σ cs, n, false, 0, ty⟩) = subL σ cs from rfl, subL_len] at hn
    have hsz : q.sz = n := @BR.sz E _ _ _ _ _ hb
    have hlo : q.loose = false := @BR.loose E _ _ _ _ _ hb
    refine @BR.mk (E.put σ hσ.form) _ _ _ _ _ hn hsz hlo ⟨c, e, k1, k2, k3, fun o x hx => ?_⟩ (fun o ho => @BR.nf E _ _ _ _ _ hb o ho) ⟨(@BR.ty E _ _ _ _ _ hb).1, (@BR.ty E _ _ _ _ _ hb).2⟩
    obtain ⟨g1, y, g2, g3⟩ := k4 o (sub σ x) (by show (subL σ cs)[o]? = _; rw [subL_get, show cs[o]? = some x from hx]; rfl)
    rw [cellOk_sub hc] at g1
    exact ⟨g1, y, g2, VR_from (E := E.put σ hσ.form) (E' := E) (fun _ => rfl) hc (unk_from hσ) x g3⟩
  · obtain ⟨rfl, _⟩ := hget _ i b' h'
    exact Nat.one_pos

/-- both ways: a fact about a block told of -/
theorem KnownS.sub {E : Env} {σ : Nat → PV} (hσ : Fit σ) {P : Program} {f ty : Nat} {cs ds : List PV} {q : PV} {cs' : List PV} :
    @KnownS (E.put σ hσ.form) P f ty cs ds q cs' ↔ @KnownS E P f ty (subL σ cs) (subL σ ds) (Ev.sub σ q) (subL σ cs') := by
  have hc := fun n => form_cell (hσ.form n)
  have hpt : ∀ (p : Pl) (w : World) (F : Fz) (ys : List Value), @VRs (E.put σ hσ.form) w F (noMap.up 0 p) (.ptr 0 0 :: ds) ys ↔ @VRs E w F (noMap.up 0 p) (.ptr 0 0 :: subL σ ds) ys := by
    intro p w F ys
    have := @VRs_sub E σ hσ w F (noMap.up 0 p) (.ptr 0 0 :: ds) ys
    rw [this, subL, Ev.sub]
  constructor
  · intro h
    refine ⟨h.1, fun w F p args hs hv => Calls.mono (h.2 w F p args ?_ ((hpt p w F _).2 hv)) ?_⟩
    · have := HS_from hσ hs
      rw [subL_len] at this
      exact this
    · rintro e w' ⟨v, F', rfl, h1, h2, h3⟩
      refine ⟨v, F', rfl, VR_to (E := E.put σ hσ.form) (E' := E) (fun _ => rfl) hc (unk_to hσ) h1, ?_, h3⟩
      rw [subL_len]
      exact HS_to hσ h2
  · intro h
    refine ⟨h.1, fun w F p args hs hv => Calls.mono (h.2 w F p args ?_ ((hpt p w F _).1 hv)) ?_⟩
    · rw [subL_len]
      exact HS_to hσ hs
    · rintro e w' ⟨v, F', rfl, h1, h2, h3⟩
      refine ⟨v, F', rfl, VR_from (E := E.put σ hσ.form) (E' := E) (fun _ => rfl) hc (unk_from hσ) q h1, ?_, h3⟩
      rw [subL_len] at h2
      exact HS_from hσ h2

theorem unKey_sub {σ : Nat → PV} (hσ : Fit σ) {ds : List PV} (h : unKey ds = none) : unKey (subL σ ds) = none := by
  have hu : ∀ x : PV, (Ev.sub σ x = .top → x = .top) ∧ (∀ n, Ev.sub σ x = .mp n → x = .mp n) ∧ (∀ cs, Ev.sub σ x = .tup cs → ∃ ds, x = .tup ds) := by
    intro x
    cases x <;> simp [Ev.sub]
    rename_i n
    rcases hσ.form n with ⟨y, e⟩ | ⟨es, ex, e⟩ <;> rw [e] <;> simp
  rcases ds with _ | ⟨a, ds⟩
  · rfl
  rcases ds with _ | ⟨b, ds⟩
  · simp only [subL]; unfold unKey; split
    · rename_i heq; simp at heq
    · rfl
  rcases ds with _ | ⟨c, ds⟩
  · simp only [subL]; unfold unKey; split
    · rename_i heq; simp at heq
    · rfl
  simp only [subL]
  unfold unKey
  split
  · rename_i ty cs r heq
    simp only [List.cons.injEq] at heq
    obtain ⟨h1, h2, h3, _⟩ := heq
    obtain rfl := (hu a).1 h1
    obtain rfl := (hu b).2.1 _ h2
    obtain ⟨ds', rfl⟩ := (hu c).2.2 _ h3
    simp [unKey] at h
  · rfl

theorem KnownX.unsub {E : Env} {σ : Nat → PV} (hσ : Fit σ) {P : Program} {f : Nat} {ds : List PV} {q : PV} (h : @KnownX E P f (subL σ ds) (Ev.sub σ q)) : @KnownX (E.put σ hσ.form) P f ds q := by
  unfold KnownX at h ⊢
  cases hk : unKey ds with
  | none =>
    rw [unKey_sub hσ hk] at h
    exact (Known.sub hσ).2 h
  | some t =>
    obtain ⟨ty, cs, r⟩ := t
    obtain rfl := unKey_some hk
    simp only [subL, Ev.sub, unKey] at h
    obtain ⟨q1, cs', hq, h⟩ := h
    have htup : ∀ (x : PV) (l : List PV), Ev.sub σ x = .tup l → ∃ m, x = .tup m ∧ subL σ m = l := by
      intro x l hx
      cases x <;> simp [Ev.sub] at hx
      · exact ⟨_, rfl, hx⟩
      · rename_i n
        rcases hσ.form n with ⟨y, e⟩ | ⟨es, ex, e⟩ <;> rw [e] at hx <;> simp at hx
    obtain ⟨m, rfl, hm⟩ := htup q _ hq
    rcases m with _ | ⟨a, _ | ⟨b, _ | ⟨c, m⟩⟩⟩ <;> simp [subL] at hm
    obtain ⟨h1, h2⟩ := hm
    obtain ⟨m2, rfl, h3⟩ := htup b _ h2
    subst h1; subst h3
    exact ⟨a, m2, rfl, (KnownS.sub hσ).2 h⟩
end Go.Ev

/- A run that began with a block told of, as it stands; facts in other words. -/
namespace Go.Ev
variable [Env]
section
variable {P : Program} {T : Types}
/-- the same, with the cells and the result as they stand -/
theorem knownS_run0 (hT : TOk P T) (hm : P.follows .mixedOrders = true) {FT : Fns} (hF : FTOk P FT) {O : Orc} (hO : OrcOk P O) {f : Nat} {fi : FI} (hf : FIOk P f fi) {n ty : Nat} {cs ds : List PV} {p q0 : PV} {h h2 : Hp} {b : Blk}
    (g : ∀ k : PV → Hp → Option PV, bodyF T fi (run T FT O n) (.ptr 0 0 :: ds) (startS ty cs) k = k p h) (hq : freeze deepN h p = some (q0, h2)) (hg : h2.get 0 = some b) (hk : stOk b = true) (ht : b.ty = ty) : KnownS P f ty cs ds q0 b.cells := by
  have hr := run_sound (R := PV) (.un : PV) hT (drawSound (R := PV) .un hT hm) hF hO n
  have hu := run_uni (T := T) (R := PV) FT O n
  obtain ⟨h1, h2'⟩ := bodyF_sound' (.un : PV) hT hu hr ⟨hf.1, hf.2.1, hf.2.2.1⟩ g
  refine ⟨h1, fun w F pl args hs hv => ?_⟩
  refine Calls.mono (h2' w F (noMap.up 0 pl) args hs hv) ?_
  rintro e w' ⟨v, F', M', rfl, k1, k2, k3⟩
  obtain ⟨F2, m1, m2, m3⟩ := freeze_sound deepN h p q0 h2 hq F' v k2 k1
  have hx : Ext w w' F F2 (noMap.up 0 pl) M' := k3.trans m2
  have hx' : Ext w w' F F2 (noMap.up 0 pl) (noMap.up 0 pl) := ⟨hx.os, hx.tape, hx.output, hx.size, hx.keep, hx.cell, fun _ _ h => h, hx.mF, fun _ _ h => .inl h, hx.newF⟩
  have hm0 : M' 0 = some pl := hx.mM 0 pl rfl
  have hb := m1.alone hg hm0 hk
  have n1 : pl.sz = cs.length := (hs.br 0 _ pl rfl rfl).sz
  have n2 : pl.sz = b.cells.length := (hb.br 0 _ pl rfl rfl).sz
  rw [ht, ← n2, n1] at hb
  exact ⟨v, F2, rfl, m3, hb, hx'⟩


theorem Known.weak {f : Nat} {ds : List PV} {q q' : PV} {n : Nat} (h : Known P f ds q) (hp : peq n q q' = true) : Known P f ds q' :=
  ⟨h.1, fun w F args hF hv => Calls.mono (h.2 w F args hF hv) (by rintro e w' ⟨v, F', rfl, h1, h2, h3⟩; exact ⟨v, F', rfl, peq_VR n hp h1, h2, h3⟩)⟩
end
end Go.Ev
