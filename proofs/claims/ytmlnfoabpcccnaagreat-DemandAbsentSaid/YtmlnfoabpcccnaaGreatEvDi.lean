/- What an expression asks of a variable that is not free in it: nothing. -/
import Derived.Test.YtmlnfoabpcccnaaGreatEvDh
import Derived.Test.YtmlnfoabpcccnaaGreatEvDc
import Derived.Test.YtmlnfoabpcccnaaGreatEvDe
set_option linter.all false
/- What an expression asks of a variable that is not free in it: nothing. -/
namespace Go.Ev.A
open Go.Proofs
mutual
theorem onlyU_sub {a : Nat → Bool} {σ τ : Nat → PV} (h : ∀ n, a n = true → σ n = τ n) : ∀ (p : PV), onlyU a p = true → Ev.sub σ p = Ev.sub τ p
  | .unk n, g => by rw [Ev.sub, Ev.sub, h n (by simpa [onlyU] using g)]
  | .agg cs, g => by rw [Ev.sub, Ev.sub, onlyL_sub h cs (by simpa [onlyU] using g)]
  | .tup cs, g => by rw [Ev.sub, Ev.sub, onlyL_sub h cs (by simpa [onlyU] using g)]
  | .sl es _, g => by rw [Ev.sub, Ev.sub, onlyE_sub h es (by simpa [onlyU] using g)]
  | .ep cs _, g => by rw [Ev.sub, Ev.sub, onlyL_sub h cs (by simpa [onlyU] using g)]
  | .clo _ cs, g => by rw [Ev.sub, Ev.sub, onlyL_sub h cs (by simpa [onlyU] using g)]
  | .bnd _ cs, g => by rw [Ev.sub, Ev.sub, onlyL_sub h cs (by simpa [onlyU] using g)]
  | .v _, _ => by rw [Ev.sub, Ev.sub]
  | .row .., _ => by rw [Ev.sub, Ev.sub]
  | .ptr .., _ => by rw [Ev.sub, Ev.sub]
  | .un, _ => by rw [Ev.sub, Ev.sub]
  | .sym _, _ => by rw [Ev.sub, Ev.sub]
  | .mp _, _ => by rw [Ev.sub, Ev.sub]
  | .top, _ => by rw [Ev.sub, Ev.sub]
theorem onlyL_sub {a : Nat → Bool} {σ τ : Nat → PV} (h : ∀ n, a n = true → σ n = τ n) : ∀ (cs : List PV), onlyL a cs = true → subL σ cs = subL τ cs
  | [], _ => rfl
  | c :: cs, g => by simp [onlyL] at g; rw [subL, subL, onlyU_sub h c g.1, onlyL_sub h cs g.2]
theorem onlyE_sub {a : Nat → Bool} {σ τ : Nat → PV} (h : ∀ n, a n = true → σ n = τ n) : ∀ (es : List (List PV)), onlyE a es = true → subE σ es = subE τ es
  | [], _ => rfl
  | c :: cs, g => by simp [onlyE] at g; rw [subE, subE, onlyL_sub h c g.1, onlyE_sub h cs g.2]
end
theorem onlyL_mem {a : Nat → Bool} : ∀ {cs : List PV}, onlyL a cs = true → ∀ c ∈ cs, onlyU a c = true
  | [], _, c, h => by cases h
  | d :: cs, g, c, h => by
    simp only [onlyL, Bool.and_eq_true] at g
    rcases List.mem_cons.1 h with rfl | h
    · exact g.1
    · exact onlyL_mem g.2 c h
theorem onlyL_all {a : Nat → Bool} : ∀ {cs : List PV}, (∀ c ∈ cs, onlyU a c = true) → onlyL a cs = true
  | [], _ => rfl
  | d :: cs, g => by
    simp only [onlyL, Bool.and_eq_true]
    exact ⟨g d (List.mem_cons_self ..), onlyL_all fun c hc => g c (List.mem_cons_of_mem _ hc)⟩
theorem onlyE_mem {a : Nat → Bool} : ∀ {es : List (List PV)}, onlyE a es = true → ∀ c ∈ es, onlyL a c = true
  | [], _, c, h => by cases h
  | d :: cs, g, c, h => by
    simp only [onlyE, Bool.and_eq_true] at g
    rcases List.mem_cons.1 h with rfl | h
    · exact g.1
    · exact onlyE_mem g.2 c h
theorem slOf_only {a : Nat → Bool} {p : PV} (h : onlyU a p = true) : ∀ e ∈ slOf p, onlyL a e = true := by
  unfold slOf
  split
  · exact onlyE_mem (by simpa [onlyU] using h)
  · intro e he; cases he
theorem kids_only {a : Nat → Bool} {cells : List PV} (h : onlyL a cells = true) : ∀ k ∈ kidsOf cells, onlyL a k = true := by
  unfold kidsOf
  split
  · exact slOf_only (onlyL_mem h _ (by simp))
  · intro e he; cases he
theorem let_only {a : Nat → Bool} {cells : List PV} (h : onlyL a cells = true) : ∀ k ∈ letOf cells, onlyL a k = true := by
  unfold letOf
  split
  · rename_i cp _ _ _
    have hc := slOf_only (onlyL_mem h cp (by simp))
    split
    · rename_i c r e
      intro k hk
      rw [List.mem_singleton.1 hk]
      have := hc c (by rw [e]; exact List.mem_cons_self ..)
      exact onlyL_all fun x hx => onlyL_mem this x (List.mem_of_mem_drop (List.mem_of_mem_take hx))
    · intro k hk; cases hk
  · intro k hk; cases hk
theorem bytesEq_iff (a b : List UInt8) : bytesEq a b = true ↔ a = b := ⟨bytesEq_eq', fun h => by rw [h]; exact bytesEq_rfl b⟩
theorem bytesEq_symm (a b : List UInt8) : bytesEq a b = bytesEq b a := by
  cases h : bytesEq a b with
  | true => rw [(bytesEq_iff a b).1 h]; exact (bytesEq_rfl b).symm
  | false =>
    cases g : bytesEq b a with
    | false => rfl
    | true => rw [(bytesEq_iff b a).1 g, bytesEq_rfl] at h; cases h
theorem bits_mem (f : Nat → Bool) : ∀ (l : List Nat), (l.map fun k => (k, f k)) ∈ bitsOf l
  | [] => List.mem_singleton.2 rfl
  | k :: r => by
    unfold bitsOf
    cases h : f k with
    | true => exact List.mem_append_left _ (List.mem_map.2 ⟨_, bits_mem f r, by simp [h]⟩)
    | false => exact List.mem_append_right _ (List.mem_map.2 ⟨_, bits_mem f r, by simp [h]⟩)
theorem bitOf_map (f : Nat → Bool) : ∀ (l : List Nat) (k : Nat) (b : Bool), bitOf k (l.map fun k => (k, f k)) = some b → k ∈ l ∧ b = f k
  | [], k, b, h => by cases h
  | j :: r, k, b, h => by
    simp only [List.map_cons, bitOf] at h
    split at h
    · rename_i hj
      rw [Nat.eq_of_beq_eq_true hj] at h ⊢
      cases h
      exact ⟨List.mem_cons_self .., rfl⟩
    · obtain ⟨h1, h2⟩ := bitOf_map f r k b h
      exact ⟨List.mem_cons_of_mem _ h1, h2⟩
theorem heads_mem {it : List It} : ∀ {ks : List (List PV)} {k : Nat}, k ∈ heads it ks → ∃ c ∈ ks, ∃ m, holeOf it c = some m ∧ k = 2000 + 20 * m
  | [], k, h => by cases h
  | c :: r, k, h => by
    unfold heads at h
    split at h
    · rename_i m hm
      rcases List.mem_cons.1 h with rfl | h
      · exact ⟨c, List.mem_cons_self .., m, hm, rfl⟩
      · obtain ⟨d, h1, h2⟩ := heads_mem h
        exact ⟨d, List.mem_cons_of_mem _ h1, h2⟩
    · obtain ⟨d, h1, h2⟩ := heads_mem h
      exact ⟨d, List.mem_cons_of_mem _ h1, h2⟩
theorem kids_sub (σ : Nat → PV) {cells k : List PV} (h : k ∈ kidsOf cells) : ∃ ks ex, (subL σ cells)[4]? = some (.sl ks ex) ∧ subL σ k ∈ ks := by
  unfold kidsOf at h
  split at h
  · rename_i kp _ _ _ _ _
    unfold slOf at h
    split at h
    · rename_i es ex
      refine ⟨subE σ es, ex, by simp only [subL, Ev.sub]; rfl, by rw [subE_map]; exact List.mem_map.2 ⟨k, h, rfl⟩⟩
    · cases h
  · cases h
theorem let_sub (σ : Nat → PV) {cells b : List PV} (h : b ∈ letOf cells) : ∃ c cs ex, (subL σ cells)[6]? = some (.sl cs ex) ∧ subL σ c ∈ cs ∧ b = body c ∧ ∃ kd c1 c2 c3 c4 c5 cp c7 c8 c9 r, cells = [kd, c1, c2, c3, c4, c5, cp, c7, c8, c9] ∧ slOf cp = c :: r := by
  unfold letOf at h
  split at h
  · rename_i cp _ _ _
    split at h
    · rename_i c r e
      obtain rfl := List.mem_singleton.1 h
      have e0 := e
      unfold slOf at e
      split at e
      · rename_i es ex
        subst e
        refine ⟨c, subE σ (c :: r), ex, by simp only [subL, Ev.sub]; rfl, by rw [subE]; exact List.mem_cons_self .., rfl, _, _, _, _, _, _, _, _, _, _, r, rfl, e0⟩
      · cases e
    · cases h
  · cases h
section
variable [E : Env]
/-- a tree asks nothing of a variable that is not free in it -/
def Dn (X : List PV) : Prop := ∀ x : List UInt8, x ≠ [] → ¬ Fv X x → Known Tryz.prog 19 [nl, .agg X, Str x] nl
/-- what a let binds is not the variable asked for -/
theorem let_pat {σ : Nat → PV} {V x : List UInt8} (hV : σ 200 = Str V) (hx : x ≠ []) {cells b : List PV} (hb : b ∈ letOf cells) (hp : letPat cells = true) (hv : (bytesEq V x && letV cells) = false) {s : Nat → PV} (hs : s = σ) : ∃ c cs ex p, (subL σ cells)[6]? = some (.sl cs ex) ∧ c ∈ cs ∧ c[0]? = some p ∧ body c = subL σ b ∧ ¬ PatStr p x := by
  obtain ⟨c, cs, ex, h1, h2, rfl, kd, c1, c2, c3, c4, c5, cp, c7, c8, c9, r, rfl, h3⟩ := let_sub σ hb
  unfold letOf at hb
  split at hb
  · rename_i heq
    simp only [List.cons.injEq] at heq
    obtain ⟨rfl, rfl, rfl, rfl, rfl, rfl, rfl, rfl, rfl, rfl, _⟩ := heq
    unfold letPat at hp
    unfold letV at hv
    simp only [h3] at hp hv
    split at hp
    · rename_i z ex' r' heq
      simp only [List.cons.injEq] at heq
      obtain ⟨rfl, rfl⟩ := heq
      simp only [Bool.and_true] at hv
      refine ⟨_, cs, ex, _, h1, h2, by rw [subL]; rfl, body_sub σ _, ?_⟩
      rintro ⟨es, ex2, e, e1, e2, e3⟩
      simp only [Ev.sub, subE, subL, PV.sl.injEq] at e1
      obtain ⟨rfl, _⟩ := e1
      obtain rfl := List.mem_singleton.1 e2
      have hne : V ≠ x := fun h => by rw [h, bytesEq_rfl] at hv; cases hv
      rcases e3 with e3 | ⟨fs, ex3, f, e3, _⟩
      · simp only [List.mem_cons, List.not_mem_nil, or_false, hV] at e3
        rcases e3 with e | e | e | e | e
        · cases e
        · cases e
        · exact hne (by
            simp only [PV.v.injEq, Value.string.injEq, ByteArray.mk.injEq, Array.mk.injEq] at e
            exact e.symm)
        · cases e
        · cases e
      · simp only [List.mem_cons, List.not_mem_nil, or_false, hV] at e3
        rcases e3 with e | e | e | e | e <;> cases e
    · rename_i z w ex' r' heq
      simp only [List.cons.injEq] at heq
      obtain ⟨rfl, rfl⟩ := heq
      split at hp
      · rename_i hw
        refine ⟨_, cs, ex, _, h1, h2, by rw [subL]; rfl, body_sub σ _, ?_⟩
        rintro ⟨es, ex2, e, e1, e2, e3⟩
        simp only [Ev.sub, subE, subL, PV.sl.injEq] at e1
        obtain ⟨rfl, _⟩ := e1
        obtain rfl := List.mem_singleton.1 e2
        rcases e3 with e3 | ⟨fs, ex3, f, e3, _⟩
        · simp only [List.mem_cons, List.not_mem_nil, or_false] at e3
          rcases e3 with e | e | e | e | e
          · cases e
          · cases e
          · simp only [PV.v.injEq, Value.string.injEq] at e
            rw [← e] at hw
            exact hx hw
          · cases e
          · cases e
        · simp only [List.mem_cons, List.not_mem_nil, or_false] at e3
          rcases e3 with e | e | e | e | e <;> cases e
      · cases hp
    · cases hp
  · cases hb
end
end Go.Ev.A

/- What an expression asks of a variable that is not free in it: nothing (soundness). -/
namespace Go.Ev.A
open Go.Proofs
theorem allow_5000 {it : List It} {k : Nat} (h : allowU it k = true) : k ≠ 5000 := by
  intro e
  subst e
  unfold allowU rf0 at h
  simp only [Bool.or_eq_true, Bool.and_eq_true] at h
  rcases h with (h | h | ⟨_, h | ⟨h, _⟩⟩) | ⟨_, h, _⟩
  · exact absurd (Nat.eq_of_beq_eq_true h) (by omega)
  · exact absurd (Nat.eq_of_beq_eq_true h) (by omega)
  · exact absurd (Nat.le_of_ble_eq_true h) (by omega)
  · exact absurd (Nat.le_of_ble_eq_true h) (by omega)
  · exact absurd (Nat.le_of_ble_eq_true h) (by omega)
theorem un_get {σ : Nat → PV} {a : Nat} {l : List PV} {n : Nat} (h : subL σ (un a n) = l) {c : Nat} (hc : c < n) : l[c]? = some (σ (a + c)) := by
  subst h
  induction n generalizing a c with
  | zero => omega
  | succ n ih =>
    cases c with
    | zero => simp [un, subL, Ev.sub]
    | succ c =>
      have := ih (a := a + 1) (c := c) (by omega)
      simp only [un, subL, List.getElem?_cons_succ]
      rw [this, show a + 1 + c = a + (c + 1) by omega]
section
variable [E : Env]
theorem knownX19 {a b c q : PV} (h : Known Tryz.prog 19 [a, b, c] q) (ha : a = nl) : KnownX Tryz.prog 19 [a, b, c] q := by
  subst ha; exact h
theorem dB_ok {σ : Nat → PV} (hσ : Fit σ) (H : SOk σ) {it : List It} {X : Nat → List PV} (hX : ∀ m, it[m]? = some .hole → subL σ (un (2000 + 20 * m) 10) = X m ∧ Dn (X m) ∧ ∃ kd t, (X m)[0]? = some (i kd) ∧ (X m)[3]? = some (Str t)) :
    ∀ (f : Nat) (cells : List PV), dB it f cells = true → onlyL (allowU it) cells = true → Dn (subL σ cells) := by
  intro f
  induction f with
  | zero => intro cells h; cases h
  | succ f ih =>
    intro cells h hon
    unfold dB at h
    split at h
    · rename_i m hm
      obtain ⟨rfl, hh⟩ := holeOf_eq hm
      obtain ⟨e1, e2, _⟩ := hX m hh
      rw [e1]; exact e2
    · simp only [Bool.and_eq_true] at h
      obtain ⟨h10, hlp, hall, hk, hlt⟩ := h
      intro x hx hfv
      obtain ⟨V, hV⟩ := H.txt
      let τ : Nat → PV := fun k => if k = 5000 then Str x else σ k
      have t5 : τ 5000 = Str x := if_pos rfl
      have tn : ∀ {k}, k ≠ 5000 → τ k = σ k := fun h => if_neg h
      have hτ : Fit τ := ⟨fun k => by
        by_cases h : k = 5000
        · rw [h, t5]; exact .inl ⟨_, rfl⟩
        · rw [tn h]; exact hσ.form k, fun k => by
        by_cases h : k = 5000
        · rw [h, t5]; rfl
        · rw [tn h]; exact hσ.clean k⟩
      have same : ∀ {cs : List PV}, onlyL (allowU it) cs = true → subL τ cs = subL σ cs := fun h => onlyL_sub (fun k hk => tn (allow_5000 hk)) _ h
      let f0 : Nat → Bool := fun k => match τ k with
        | .v (.int .i64 (.ofNat n)) => Nat.beq n 5
        | _ => false
      generalize hbits : ((heads it (kidsOf cells)).map fun k => (k, f0 k)) = bits
      have hok : okJ cells bits (bytesEq V x) = true := by
        have := List.all_eq_true.1 hall bits (by rw [← hbits]; exact bits_mem f0 _)
        rw [Bool.and_eq_true] at this
        cases bytesEq V x with
        | true => exact this.1
        | false => exact this.2
      -- a part that is an expression of its own
      have part : ∀ k b, bitOf k bits = some b → ∃ kd t, τ k = i kd ∧ τ (k + 3) = Str t ∧ b = Nat.beq kd 5 ∧ (kd = 5 → t ≠ x) := by
        intro k b hb
        rw [← hbits] at hb
        obtain ⟨h1, h2⟩ := bitOf_map f0 _ k b hb
        obtain ⟨c, hc, m, hm, rfl⟩ := heads_mem h1
        obtain ⟨rfl, hh⟩ := holeOf_eq hm
        obtain ⟨e1, _, kd, t, e2, e3⟩ := hX m hh
        have hlt : m < it.length := (List.getElem?_eq_some_iff.1 hh).1
        have g0 := un_get e1 (c := 0) (by omega)
        have g3 := un_get e1 (c := 3) (by omega)
        rw [e2] at g0
        rw [e3] at g3
        have ne : ∀ c, c < 10 → 2000 + 20 * m + c ≠ 5000 := by
          intro c hc9 he
          have hmem : PV.unk (2000 + 20 * m + c) ∈ un (2000 + 20 * m) 10 := by
            have : ∀ (n a c : Nat), c < n → PV.unk (a + c) ∈ un a n := by
              intro n
              induction n with
              | zero => intro a c h; omega
              | succ n ih =>
                intro a c h
                cases c with
                | zero => exact List.mem_cons_self ..
                | succ c =>
                  have := ih (a + 1) c (by omega)
                  rw [show a + 1 + c = a + (c + 1) by omega] at this
                  exact List.mem_cons_of_mem _ this
            exact this 10 _ c hc9
          have := onlyL_mem (kids_only hon _ hc) _ hmem
          rw [onlyU] at this
          exact allow_5000 this he
        have k0 : τ (2000 + 20 * m) = i kd := by
          have e0 : 2000 + 20 * m ≠ 5000 := ne 0 (by omega)
          rw [tn e0]
          have := Option.some.inj g0
          rw [Nat.add_zero] at this
          exact this.symm
        refine ⟨kd, t, k0, by rw [tn (ne 3 (by omega))]; exact (Option.some.inj g3).symm, ?_, fun h5 ht => ?_⟩
        · rw [h2]
          show (match τ (2000 + 20 * m) with | .v (.int .i64 (.ofNat n)) => Nat.beq n 5 | _ => false) = _
          rw [k0]
        · obtain ⟨ks, ex, q1, q2⟩ := kids_sub σ hc
          rw [e1] at q2
          exact hfv (.kid q1 q2 (.var (by rw [e2, h5]) (by rw [e3, ht])))
      have hA : ∀ o a q, askJ bits (bytesEq V x) o a = some q → @AskEq (E.put τ hτ.form) tys2 o a q := by
        letI := E.put τ hτ.form
        have hr : ∀ n, res (.unk n) = τ n := fun n => rfl
        intro o a q h
        unfold askJ at h
        split at h
        · rename_i k
          split at h
          · rename_i b hb
            cases h
            obtain ⟨kd, t, g1, _, g3, _⟩ := part k b hb
            refine ⟨Bo b, ?_, Le.refl _⟩
            rw [hr, g1, g3]
            show intOp .eql .i64 .i64 (.ofNat kd) (.ofNat 5) = _
            rw [int_eql]; rfl
          · cases h
        · rename_i k
          split at h
          · rename_i hk
            cases h
            refine ⟨Bo (bytesEq V x), ?_, Le.refl _⟩
            rw [hr, hr, t5, Nat.eq_of_beq_eq_true hk, tn (by omega), hV]
            rfl
          · split at h
            · rename_i h3 hb
              cases h
              obtain ⟨kd, t, g1, g2, g3, g4⟩ := part _ _ hb
              have h3 := Nat.le_of_ble_eq_true h3
              rw [show k - 3 + 3 = k by omega] at g2
              refine ⟨Bo false, ?_, Le.refl _⟩
              rw [hr, hr, t5, g2]
              have : bytesEq t x = false := by
                cases hq : bytesEq t x with
                | false => rfl
                | true => exact absurd ((bytesEq_iff t x).1 hq) (g4 (Nat.eq_of_beq_eq_true g3.symm))
              show some (PV.v (.bool (bytesEq t x))) = _
              rw [this]
            · cases h
        · cases h
          refine ⟨Bo (bytesEq V x), ?_, Le.refl _⟩
          rw [hr, hr, t5, tn (by omega), hV, bytesEq_symm V x]
          rfl
        · cases h
      have hS : ∀ s ∈ kidsOf cells ++ (match bytesEq V x && letV cells with | true => [] | false => letOf cells), Known Tryz.prog 19 [nl, .agg (subL τ s), Str x] nl := by
        intro s hs
        rcases List.mem_append.1 hs with hs | hs
        · have hd := ih s (List.all_eq_true.1 hk s hs) (kids_only hon s hs)
          rw [same (kids_only hon s hs)]
          obtain ⟨ks, ex, q1, q2⟩ := kids_sub σ hs
          exact hd x hx fun h => hfv (.kid q1 q2 h)
        · split at hs
          · cases hs
          · rename_i hvb
            have hd := ih s (List.all_eq_true.1 hlt s hs) (let_only hon s hs)
            rw [same (let_only hon s hs)]
            obtain ⟨c, cs, ex, p, q1, q2, q3, q4, q5⟩ := let_pat hV hx hs hlp hvb rfl
            exact hd x hx fun h => hfv (.bod q1 q2 q3 (by rw [q4]; exact h) q5)
      have hO : @OrcOk (E.put τ hτ.form) Tryz.prog (orcJ (kidsOf cells ++ (match bytesEq V x && letV cells with | true => [] | false => letOf cells))) := by
        intro g ds q h
        unfold orcJ at h
        split at h
        · rename_i c
          split at h
          · rename_i hc
            cases h
            obtain ⟨s, hs, he⟩ := List.any_eq_true.1 hc
            have key : @KnownX (E.put τ hτ.form) Tryz.prog 19 [NL, .agg s, .unk 5000] NL := by
              refine KnownX.unsub hτ ?_
              simp only [subL, Ev.sub, t5]
              exact knownX19 (hS s hs) rfl
            letI := E.put τ hτ.form
            refine find_ok (pg := [([NL, .agg s, .unk 5000], NL)]) ⟨key, trivial⟩ ?_
            unfold find
            have : peqR [NL, .agg c, .unk 5000] [NL, .agg s, .unk 5000] = true := by
              have e1 : peq 1000 (.unk 5000) (.unk 5000) = true := Nat.beq_refl 5000
              have e2 : peq 1000 (.agg c) (.agg s) = true := he
              have e3 : peq 1000 NL NL = true := rfl
              simp only [peqR, e1, e2, e3]
            rw [this]
          · cases h
        · cases h
      have := (Known.sub hτ (P := Tryz.prog) (f := 19) (ds := [NL, .agg cells, .unk 5000]) (q := NL)).1 (by
        letI := E.put τ hτ.form
        exact known_goes (T := ⟨tysT2, askJ bits (bytesEq V x)⟩) (TOk.asked (T := tys2) tOk2 (AskOk.of tOk2 hA)) mixed fnsJOk hO e19ok hok)
      simp only [subL, Ev.sub, t5, same hon] at this
      exact this
end
end Go.Ev.A

/- What is read is a tree, and asks nothing of a variable that is not free in it. -/
namespace Go.Ev.A
open Go.Proofs
theorem outs46 : outs.length = 46 := rfl
section
variable [E : Env]
theorem ez_ok {n : Nat} {X : List PV} (h : Ez n X) : Et n X ∧ Dn X := by
  induction h with
  | @mk n k it qc e hit hq hV hN hA hW hlen hrec ih =>
    have hk : k < 46 := by rw [← prods_len]; exact (List.getElem?_eq_some_iff.1 hit).1
    have hi := List.mem_of_getElem? hit
    have ho := prod_ok hi
    have hE : etB it 5 0 qc = true := by
      have := allN_lt tEt k hk
      unfold okEt at this
      rw [hit, hq] at this
      exact this
    have hD : dB it 5 qc = true := by
      have : okD k = true := by
        have h0 := allN_lt tD0 k hk
        have h1 := allN_lt tD1 k hk
        simp only [Bool.or_eq_true] at h0 h1
        rcases h0 with h0 | h0
        · rcases h1 with h1 | h1
          · have := Nat.le_of_ble_eq_true h0
            have h1 : k < 23 := Nat.le_of_ble_eq_true h1
            omega
          · exact h1
        · exact h0
      unfold okD at this
      rw [hit, hq] at this
      exact this
    have hU : onlyL (allowU it) qc = true := by
      have := allN_lt tU k hk
      unfold okU at this
      rw [hit, hq] at this
      exact this
    let τ : Nat → PV := fun j => match allowU it j with
      | true => sp e j
      | false => I 0
    have at0 : ∀ {j}, allowU it j = true → τ j = sp e j := fun {j} h => by show (match allowU it j with | true => sp e j | false => I 0) = _; rw [h]
    have a200 : allowU it 200 = true := rfl
    have a201 : allowU it 201 = true := rfl
    obtain ⟨c0, r0, hV', _⟩ := hV
    have s200 : sp e 200 = .v e.vt := by rw [sp_low (by omega)]; rfl
    have s201 : sp e 201 = .v e.vn := by rw [sp_low (by omega)]; rfl
    have sA : ∀ j, 3000 ≤ j → j < 3200 → sp e j = .v (e.A (j - 3000)) := fun j h1 h2 => by
      have := sp_at (e := e) (m := j - 3000) (by omega)
      rwa [show 3000 + (j - 3000) = j by omega] at this
    have sW : ∀ j, 3200 ≤ j → j % 4 = 3 → sp e j = (e.W ((j - 3200) / 4)).getD 3 (I 0) := fun j h1 h2 => by
      have := sp_w (e := e) (m := (j - 3200) / 4) (c := 3) (by omega)
      rwa [show 3200 + 4 * ((j - 3200) / 4) + 3 = j by omega] at this
    have aA : ∀ j, 3000 ≤ j → j < 3200 → allowU it j = true := fun j h1 h2 => by
      unfold allowU rf0
      simp only [Nat.ble_eq_true_of_le h1, show Nat.blt j 3200 = true from Nat.ble_eq_true_of_le h2, Bool.true_or, Bool.and_self, Bool.or_true]
    have aW : ∀ j, 3200 ≤ j → j < 3400 → j % 4 = 3 → allowU it j = true := fun j h1 h2 h3 => by
      unfold allowU rf0
      have e3 : Nat.beq (j % 4) 3 = true := by rw [h3]; rfl
      simp only [Nat.ble_eq_true_of_le (show 3000 ≤ j by omega), show Nat.blt j 3400 = true from Nat.ble_eq_true_of_le h2, e3, Bool.true_or, Bool.and_self, Bool.or_true]
    have H : SOk τ := ⟨⟨c0 :: r0, by rw [at0 a200, s200, hV']⟩, by
        obtain ⟨z, hz⟩ := hN
        exact ⟨z, by rw [at0 a201, s201, hz]⟩, fun j h1 h2 => by
        obtain ⟨z, hz⟩ := hA (j - 3000)
        exact ⟨z, by rw [at0 (aA j h1 h2), sA j h1 h2, hz]⟩, fun j h1 h2 h3 => by
        obtain ⟨z, hz⟩ := hW ((j - 3200) / 4)
        exact ⟨z, by rw [at0 (aW j h1 h2 h3), sW j h1 h3, hz]⟩⟩
    have aX : ∀ m c, it[m]? = some .hole → c < 10 → allowU it (2000 + 20 * m + c) = true := fun m c hm hc => by
      have hml := (List.getElem?_eq_some_iff.1 hm).1
      have hs := ho.short
      unfold allowU
      have e1 : (2000 + 20 * m + c - 2000) / 20 = m := by omega
      have e2 : (2000 + 20 * m + c - 2000) % 20 = c := by omega
      rw [e1, e2, hm]
      simp only [Nat.ble_eq_true_of_le (show 2000 ≤ 2000 + 20 * m + c by omega), show Nat.blt (2000 + 20 * m + c) 3000 = true from Nat.ble_eq_true_of_le (by omega), show Nat.blt c 10 = true from Nat.ble_eq_true_of_le hc, isHole, Bool.and_self, Bool.or_true]
    have hX0 : ∀ m, it[m]? = some .hole → subL τ (un (2000 + 20 * m) 10) = e.X m := fun m hm => by
      have hml := (List.getElem?_eq_some_iff.1 hm).1
      have hs := ho.short
      exact un_sub 10 (2000 + 20 * m) (e.X m) (hlen m hm) fun c hc => by
        rw [at0 (aX m c hm hc)]
        exact sp_x (by omega) (by omega)
    have hτ : Fit τ := by
      have : ∀ j, formed (τ j) := by
        intro j
        cases hj : allowU it j with
        | false => show formed (match allowU it j with | true => sp e j | false => I 0); rw [hj]; exact ⟨.inl ⟨_, rfl⟩, rfl⟩
        | true =>
          have hj' := hj
          unfold allowU at hj
          rw [Bool.or_eq_true] at hj
          rcases hj with hj | hj
          · have := (rf0_ok H hj).2
            rw [Ev.sub] at this
            exact this
          · simp only [Bool.and_eq_true] at hj
            obtain ⟨b1, b2, b3, b4⟩ := hj
            have b1 := Nat.le_of_ble_eq_true b1
            have b2 : j < 3000 := Nat.le_of_ble_eq_true b2
            have b3 : (j - 2000) % 20 < 10 := Nat.le_of_ble_eq_true b3
            have hm := isHole_eq b4
            have hml := (List.getElem?_eq_some_iff.1 hm).1
            have hs := ho.short
            have := sp_x (e := e) (m := (j - 2000) / 20) (c := (j - 2000) % 20) (by omega) (by omega)
            rw [show 2000 + 20 * ((j - 2000) / 20) + (j - 2000) % 20 = j by omega] at this
            rw [at0 hj', this]
            exact formed_getD (ih _ hm).1.facts.2.1 _
      exact ⟨fun j => (this j).1, fun j => (this j).2⟩
    have hsub : subL (sp e) qc = subL τ qc := onlyL_sub (fun j hj => (at0 hj).symm) _ hU
    rw [hsub]
    refine ⟨etB_ok H (fun m hm => ⟨hX0 m hm, (ih m hm).1⟩) 5 0 qc hE, dB_ok hτ H (fun m hm => ⟨hX0 m hm, (ih m hm).2, ?_⟩) 5 qc hD hU⟩
    have := (ih m hm).1
    cases hq2 : lev n it m with
    | zero => rw [hq2] at this; cases this
    | succ q =>
      rw [hq2] at this
      generalize e.X m = Y at this
      cases this with
      | mk => exact ⟨_, _, rfl, rfl⟩
end
end Go.Ev.A

/- free: the walk. -/
namespace Go.Ev
open Go.Proofs
open A (Str formed)
noncomputable def fnsV : Fns := .nd (.nd .lf none (.nd (.nd (.nd .lf (some e17s) .lf) none .lf) (some e5s) .lf)) none .lf
theorem fnsVOk [Env] : FTOk Tryz.prog fnsV := .of ⟨trivial, ⟨trivial, trivial, ⟨e5sok, ⟨trivial, ⟨e17sok, trivial, trivial⟩, trivial⟩, trivial⟩⟩, trivial⟩
theorem fnsV5 : fnsV.get 5 = some e5s := rfl
theorem fnsV17 : fnsV.get 17 = some e17s := rfl
/-- how far a list of texts has grown -/
structure Post (n : Nat) (S : List UInt8 → Prop) (I : List (List UInt8)) (hp : Hp) (out : PV) (O : List (List UInt8)) (hp' : Hp) (out' : PV) (O' : List (List UInt8)) : Prop where
  acc : AccS 9 1 hp' out' (tx O')
  nxt : hp.next ≤ hp'.next
  fr : ∀ j, j < hp.next → (∀ o l c s, out ≠ .row j o l c s) → hp'.get j = hp.get j
  own : ∀ j o l c s, out' = .row j o l c s → out = .row j o l c s ∨ hp.next ≤ j
  sub : ∀ s ∈ O, s ∈ O'
  fv : ∀ s, S s → s ∉ I → s ∈ O'
  len : O'.length ≤ O.length + n
theorem Post.refl {I : List (List UInt8)} {hp : Hp} {out : PV} {O : List (List UInt8)} (h : AccS 9 1 hp out (tx O)) : Post 0 (fun _ => False) I hp out O hp out O :=
  ⟨h, Nat.le_refl _, fun _ _ _ => rfl, fun _ _ _ _ _ h => .inl h, fun _ h => h, fun _ h => h.elim, Nat.le_refl _⟩
theorem Post.trans {n m : Nat} {S T : List UInt8 → Prop} {I : List (List UInt8)} {hp hp1 hp2 : Hp} {out out1 out2 : PV} {O O1 O2 : List (List UInt8)} (h : Post n S I hp out O hp1 out1 O1) (g : Post m T I hp1 out1 O1 hp2 out2 O2) : Post (n + m) (fun s => S s ∨ T s) I hp out O hp2 out2 O2 where
  acc := g.acc
  nxt := Nat.le_trans h.nxt g.nxt
  fr := fun j hj ho => by
    rw [g.fr j (Nat.lt_of_lt_of_le hj h.nxt) (fun o l c s e => by
      rcases h.own j o l c s e with e | e
      · exact ho o l c s e
      · omega), h.fr j hj ho]
  own := fun j o l c s e => by
    rcases g.own j o l c s e with e | e
    · exact h.own j o l c s e
    · exact .inr (Nat.le_trans h.nxt e)
  sub := fun s hs => g.sub s (h.sub s hs)
  fv := fun s hs hi => by
    rcases hs with hs | hs
    · exact g.sub s (h.fv s hs hi)
    · exact g.fv s hs hi
  len := by have := h.len; have := g.len; omega
theorem Post.weak {n m : Nat} {S T : List UInt8 → Prop} {I : List (List UInt8)} {hp hp1 : Hp} {out out1 : PV} {O O1 : List (List UInt8)} (h : Post n S I hp out O hp1 out1 O1) (hn : n ≤ m) (hs : ∀ s, T s → s ∉ I → S s) : Post m T I hp out O hp1 out1 O1 :=
  ⟨h.acc, h.nxt, h.fr, h.own, h.sub, fun s g hi => h.fv s (hs s g hi) hi, Nat.le_trans h.len (by omega)⟩
/-- more blocks ahead of it -/
theorem Post.ahead {n : Nat} {S : List UInt8 → Prop} {I : List (List UInt8)} {hp0 hp hp1 : Hp} {out out1 : PV} {O O1 : List (List UInt8)} (h : Post n S I hp out O hp1 out1 O1) (hn : hp0.next ≤ hp.next) (hg : ∀ j, j < hp0.next → hp.get j = hp0.get j) : Post n S I hp0 out O hp1 out1 O1 :=
  ⟨h.acc, Nat.le_trans hn h.nxt, fun j hj ho => by rw [h.fr j (by omega) ho, hg j hj], fun j o l c s e => by
    rcases h.own j o l c s e with e | e
    · exact .inl e
    · exact .inr (Nat.le_trans hn e), h.sub, h.fv, h.len⟩
def Apart (x y : PV) : Prop := ∀ j o l c s o' l' c' s', x = .row j o l c s → y ≠ .row j o' l' c' s'
theorem AccS.low {ty sz : Nat} {hp : Hp} {x : PV} {es : List (List PV)} (h : AccS ty sz hp x es) {j o l c s : Nat} (e : x = .row j o l c s) : j < hp.next := by
  rcases h.2 with ⟨h, _⟩ | ⟨id, h1, h2, _⟩
  · rw [h] at e; cases e
  · rw [h1] at e; cases e; exact h2
theorem AccS.stay {hp hp' : Hp} {x out : PV} {es : List (List PV)} (h : AccS 9 1 hp x es) (ha : Apart x out) (hn : hp.next ≤ hp'.next) (hg : ∀ j, j < hp.next → (∀ o l c s, out ≠ .row j o l c s) → hp'.get j = hp.get j) : AccS 9 1 hp' x es := by
  refine ⟨h.1, ?_⟩
  rcases h.2 with h1 | ⟨id, h1, h2, h3⟩
  · exact .inl h1
  · exact .inr ⟨id, h1, by omega, by rw [hg id h2 fun o l c s => ha id _ _ _ _ o l c s h1]; exact h3⟩
theorem Post.apart {n : Nat} {S : List UInt8 → Prop} {I : List (List UInt8)} {hp hp1 : Hp} {out out1 x : PV} {O O1 : List (List UInt8)} {es : List (List PV)} (h : Post n S I hp out O hp1 out1 O1) (hx : AccS 9 1 hp x es) (ha : Apart x out) : Apart x out1 := fun j o l c s o' l' c' s' e e' => by
  rcases h.own j o' l' c' s' e' with e' | e'
  · exact ha j o l c s o' l' c' s' e e'
  · have := hx.low e; omega
/-- the most texts that a tree adds -/
def VV : Nat → Nat
  | 0 => 0
  | n + 1 => 1 + 4 * VV n
theorem VV_le {n : Nat} (h : n ≤ 16) : VV n ≤ 10000000000 := by
  have hm : ∀ a b, a ≤ b → VV a ≤ VV b := by
    intro a b hab
    induction hab with
    | refl => exact Nat.le_refl _
    | step _ ih => rw [VV]; omega
  exact Nat.le_trans (hm n 16 h) (by decide)
/-- a list as a value of its own -/
def Frz (x : PV) (l : List (List UInt8)) : Prop := (x = nl ∧ l = []) ∨ ∃ ex, x = .sl (tx l) ex
section
variable [E : Env]
def SetOk (ds : List PV) (q : PV) : Prop := ∃ x l L, ds = [x] ∧ Frz x l ∧ Frz q L ∧ (∀ s ∈ l, s ∈ L) ∧ L.length ≤ l.length ∧ Known Tryz.prog 16 ds q
noncomputable def orcF : Orc := fun f ds => match f with
  | 37 => match ds with
    | [.agg (p :: r)] => iff (Known Tryz.prog 37 ds (.agg (wh p))) (some (.agg (wh p))) none
    | _ => none
  | 36 => match ds with
    | [.agg [a, b, c, p, d]] => @dite _ (∃ vs, P36 [a, b, c, p, d] p vs) (Classical.propDecidable _) (fun h => some (lsP (Classical.choose h))) (fun _ => none)
    | _ => none
  | 16 => @dite _ (∃ q, SetOk ds q) (Classical.propDecidable _) (fun h => some (Classical.choose h)) (fun _ => none)
  | _ => none
theorem orcF_ok : OrcOk Tryz.prog orcF := by
  intro f ds q h
  unfold orcF at h
  split at h
  · split at h
    · obtain ⟨h1, h2⟩ := A.iff_some h
      cases h2
      exact h1
    · cases h
  · split at h
    · split at h
      · rename_i hv
        cases h
        exact (Classical.choose_spec hv).2.2
      · cases h
    · cases h
  · split at h
    · rename_i hv
      cases h
      have key : ∀ q, SetOk ds q → KnownX Tryz.prog 16 ds q := by
        rintro q ⟨x, l, L, rfl, h1, _, _, _, hk⟩
        rcases h1 with ⟨rfl, _⟩ | ⟨ex, rfl⟩ <;> exact hk
      exact key _ (Classical.choose_spec hv)
    · cases h
  · cases h
variable {R : Type}
theorem box30 (hp : Hp) {X : List PV} (h : X.length = 10) : primBox tys hp 30 (some (.agg X)) = some (.ptr hp.next 0, hp.new ⟨X, 10, false, 0, 30⟩) := by
  obtain ⟨x0, x1, x2, x3, x4, x5, x6, x7, x8, x9, rfl⟩ := lst10 h
  rfl
theorem fa30_0 (hp : Hp) (b : Nat) : primFieldAddr tys hp 30 0 (some (.ptr b 0)) = some (.ptr b 0, hp) := _root_.id rfl
theorem fa30_3 (hp : Hp) (b : Nat) : primFieldAddr tys hp 30 3 (some (.ptr b 0)) = some (.ptr b 3, hp) := _root_.id rfl
theorem fa30_4 (hp : Hp) (b : Nat) : primFieldAddr tys hp 30 4 (some (.ptr b 0)) = some (.ptr b 4, hp) := _root_.id rfl
theorem fa30_6 (hp : Hp) (b : Nat) : primFieldAddr tys hp 30 6 (some (.ptr b 0)) = some (.ptr b 6, hp) := _root_.id rfl
theorem mk32 (hp : Hp) (t : List UInt8) : primBuildSlice tys hp 32 1 (some [(0, Str t)]) = some (.row hp.next 0 1 1 1, hp.new ⟨[Str t], 1, false, 0, 9⟩) := _root_.id rfl
theorem eq_kd (hp : Hp) (a b : Nat) : primBin tys hp .eql 3 (some (i a)) (some (i b)) = some (.v (.bool (decide (a = b))), hp) := by
  show ret1 hp (intOp .eql .i64 .i64 (.ofNat a) (.ofNat b)) = _
  rw [int_eql, ieqb_nat]; rfl
theorem lenLs {p : PV} {ks : List (List PV)} (h : Ls p ks) (hp : Hp) : primLen tys hp 23 (some p) = some (i ks.length, hp) ∧ primLen tys hp 25 (some p) = some (i ks.length, hp) := by
  rcases h with ⟨rfl, rfl⟩ | ⟨ex, rfl⟩ <;> exact ⟨rfl, rfl⟩
theorem at23 {p : PV} {ks : List (List PV)} (h : Ls p ks) (hp : Hp) {j : Nat} {k : List PV} (hj : ks[j]? = some k) (hk : k.length = 10) : ∃ a, primIndexAddr tys hp 23 (some p) (some (i j)) = some (a, hp) ∧ primLoad tys hp 30 (some a) = some (.agg k, hp) := by
  rcases h with ⟨rfl, rfl⟩ | ⟨ex, rfl⟩
  · cases hj
  · obtain ⟨x0, x1, x2, x3, x4, x5, x6, x7, x8, x9, rfl⟩ := lst10 hk
    refine ⟨.ep [x0, x1, x2, x3, x4, x5, x6, x7, x8, x9] 0, ?_, rfl⟩
    show ret1 hp (idxSl 10 (.sl ks ex) j) = _
    unfold idxSl
    simp only [hj]
    rfl
/-- what free does to a list, for a tree -/
def FreeOk (n : Nat) (X : List PV) : Prop := ∀ (f : Nat) (inner out : PV) (I O : List (List UInt8)) (hp : Hp), 10 * n + I.length + 10 ≤ f → AccS 9 1 hp inner (tx I) → AccS 9 1 hp out (tx O) → Apart inner out → I.length + n ≤ 1000 → O.length + VV n ≤ 100000000000 →
  ∃ out' O' hp', (∀ k : PV → Hp → Option PV, bodyF tys e17s (run tys fnsV orcF f) [.agg X, inner, out] hp k = k out' hp') ∧ Post (VV n) (Fv X) I hp out O hp' out' O'
end
end Go.Ev

/- free: the walk, its first part. -/
namespace Go.Ev
open Go.Proofs
open A (Str formed)
section
variable [E : Env]
theorem free_head {f b kd : Nat} {t : List UInt8} {c1 c2 kp ky cp ty c8 c9 inner out : PV} {I O : List (List UInt8)} {ks : List (List PV)} {hp : Hp} (hf : I.length + 1 ≤ f) (hI : I.length ≤ 1000) (hO : O.length ≤ 1000000000000)
    (hb : hp.get b = some ⟨[i kd, c1, c2, Str t, kp, ky, cp, ty, c8, c9], 10, false, 0, 30⟩) (hbn : b < hp.next) (hbo : ∀ o l c s, out ≠ .row b o l c s) (hk : Ls kp ks) (hkf : formed kp) (hi : AccS 9 1 hp inner (tx I)) (ho : AccS 9 1 hp out (tx O)) :
    ∃ out1 O1 hp1, (∀ k kk : Ex → St → Option PV, evC tys e17s (.seq r17s_1 (.cond (.tmp 20) r17s_2 .skip)) (callF tys fnsV orcF (run tys fnsV orcF f)) (run tys fnsV orcF f) ⟨[(1, inner), (2, out), (3, .ptr b 0)], hp⟩ (seqK (fun st => evC tys e17s r17s_3 (callF tys fnsV orcF (run tys fnsV orcF f)) (run tys fnsV orcF f) st k) kk) =
      k .normal ⟨[(1, inner), (2, out1), (3, .ptr b 0), (27, kp), (28, i ks.length), (29, i 0)], hp1⟩) ∧ Post 1 (fun s => kd = 5 ∧ s = t) I hp out O hp1 out1 O1 := by
  have l3 : ∀ {hp : Hp}, hp.get b = some ⟨[i kd, c1, c2, Str t, kp, ky, cp, ty, c8, c9], 10, false, 0, 30⟩ → primLoad tys hp 3 (some (.ptr b 0)) = some (i kd, hp) ∧ primLoad tys hp 9 (some (.ptr b 3)) = some (Str t, hp) ∧ primLoad tys hp 23 (some (.ptr b 4)) = some (kp, hp) := fun h =>
    ⟨load_cell (i := y3) rfl rfl h rfl, load_cell (i := y9) rfl rfl h rfl, load_cell (i := y23) rfl rfl h rfl⟩
  obtain ⟨a1, a2, a3⟩ := l3 hb
  by_cases hkd : kd = 5
  · subst hkd
    have c5 : ∀ K : PV → Hp → Option PV, callF tys fnsV orcF (run tys fnsV orcF f) 5 [inner, Str t] hp K = K (.v (.bool (amB I t))) hp := fun K => by
      rw [call_own fnsV5 rfl rfl rfl rfl]
      have := among_own (R := PV) fnsV orcF (.inl hi) (by omega) t (f - I.length - 1) K
      rwa [show f - I.length - 1 + I.length + 1 = f by omega] at this
    cases ham : amB I t with
    | true =>
      refine ⟨out, O, hp, fun k kk => ?_, (Post.refl ho).weak (by omega) fun s hs hi => ?_⟩
      · simp only [ham] at c5
        simp only [ev_seq, r17s_1a, fa30_0, a1, bP_some, eq_kd, decide_true, want_tt, bW_true, fa30_3, a2, c5, primUn_eq, una, Bool.not_true, ret1_some', pick_t, seqK_normal, ev_cond, opd_tmp, alget, Nat.reduceEqDiff, reduceIte, bB_false, ev_skip, r17s_3b, fa30_4, a3, (lenLs hk hp).1]
      · obtain ⟨_, rfl⟩ := hs
        exfalso
        obtain ⟨u, hu, he⟩ := List.any_eq_true.1 ham
        exact hi (A.bytesEq_eq' he ▸ hu)
    | false =>
      obtain ⟨x1, hp1, h1, h2, h3, _, ⟨m, h5⟩, h6⟩ := ho.app (ty0 := 9) sl32 (e := [Str t]) rfl (by simp; omega)
      have hb1 : hp1.get b = some ⟨[i 5, c1, c2, Str t, kp, ky, cp, ty, c8, c9], 10, false, 0, 30⟩ := (h6 b hbn hbo).trans hb
      obtain ⟨_, _, a4⟩ := l3 hb1
      refine ⟨x1, O ++ [t], hp1, fun k kk => ?_, ⟨?_, h3, h6, fun j o l c s e => ?_, fun s hs => List.mem_append_left _ hs, fun s hs _ => ?_, by simp⟩⟩
      · simp only [ham] at c5
        simp only [ev_seq, r17s_1a, fa30_0, a1, bP_some, eq_kd, decide_true, want_tt, bW_true, fa30_3, a2, c5, primUn_eq, una, Bool.not_false, ret1_some', pick_t, seqK_normal, ev_cond, opd_tmp, alget, Nat.reduceEqDiff, reduceIte, bB_true, r17s_2a, mk32, prim2, h1, r17s_3a, fa30_4, a4, (lenLs hk hp1).1]
      · rw [show tx (O ++ [t]) = tx O ++ [[Str t]] by simp]; exact h2
      · rw [h5] at e; cases e; exact .inr (by omega)
      · rw [hs.2]; exact List.mem_append_right _ (by simp)
  · refine ⟨out, O, hp, fun k kk => ?_, (Post.refl ho).weak (by omega) fun s hs hi => hkd hs.1⟩
    simp only [ev_seq, r17s_1a, fa30_0, a1, bP_some, eq_kd, decide_eq_false hkd, want_tf, bW_false, pick_fu, seqK_normal, ev_cond, opd_tmp, alget, Nat.reduceEqDiff, reduceIte, bB_false, ev_skip, r17s_3b, fa30_4, a3, (lenLs hk hp).1]
/-- the loop over an expression's parts -/
theorem free_kids {n b : Nat} {kp inner : PV} {I : List (List UInt8)} {ks : List (List PV)} (hk : Ls kp ks) (hks : ∀ k ∈ ks, k.length = 10) (hl : ks.length ≤ 2) (ih : ∀ k ∈ ks, FreeOk n k) :
    ∀ (m j f : Nat) (out : PV) (O : List (List UInt8)) (hp : Hp), ks.length = j + m → 10 * n + I.length + 10 + m ≤ f → AccS 9 1 hp inner (tx I) → AccS 9 1 hp out (tx O) → Apart inner out → I.length + n ≤ 1000 → O.length + m * VV n ≤ 100000000000 →
    ∃ out1 O1 hp1, (∀ k : Ex → St → Option PV, evC tys e17s l17s_0 (callF tys fnsV orcF (run tys fnsV orcF f)) (run tys fnsV orcF f) ⟨[(1, inner), (2, out), (3, .ptr b 0), (27, kp), (28, i ks.length), (29, i j)], hp⟩ k =
      k (.exit 0) ⟨[(1, inner), (2, out1), (3, .ptr b 0), (27, kp), (28, i ks.length), (29, i ks.length), (30, .v (.bool false))], hp1⟩) ∧ Post (m * VV n) (fun s => ∃ k ∈ ks.drop j, Fv k s) I hp out O hp1 out1 O1 := by
  intro m
  induction m with
  | zero =>
    intro j f out O hp hm hf hi ho ha hI hO
    obtain rfl : j = ks.length := by omega
    refine ⟨out, O, hp, fun k => ?_, (Post.refl ho).weak (by omega) fun s hs hi => ?_⟩
    · simp only [l17s_0_eq, ev_loop, ev_seq, r17s_4a, primBin_eq, bin_int, int_lss, ofNat_ble, Nat.ble_eq_true_of_le (Nat.le_refl _), Bool.not_true, ret1_some', bP_some, seqK_normal, ev_cond, opd_tmp, alget, Nat.reduceEqDiff, reduceIte, bB_false, ev_exit, seqK_exit]
    · rw [List.drop_length] at hs
      obtain ⟨k, hk, _⟩ := hs
      cases hk
  | succ m ihm =>
    intro j f out O hp hm hf hi ho ha hI hO
    rw [Nat.add_mul, Nat.one_mul] at hO
    obtain ⟨f, rfl⟩ : ∃ g, f = g + 1 := ⟨f - 1, by omega⟩
    have hlt : Nat.ble ks.length j = false := by rw [Bool.eq_false_iff]; intro e; have := Nat.le_of_ble_eq_true e; omega
    obtain ⟨u, hu⟩ : ∃ u, ks[j]? = some u := ⟨_, List.getElem?_eq_getElem (by omega)⟩
    have hmem := List.mem_of_getElem? hu
    have hu10 := hks u hmem
    obtain ⟨a, h1, h2⟩ := at23 hk hp hu hu10
    have hadd := int_add64 j 1 (by omega)
    -- the box of the part
    obtain ⟨hp2, st1, ld1, hnx, hold⟩ : ∃ hp2, primStore tys (hp.new zb) 30 (some (.ptr hp.next 0)) (some (.agg u)) = some (.un, hp2) ∧ primLoad tys hp2 30 (some (.ptr hp.next 0)) = some (.agg u, hp2) ∧ hp.next ≤ hp2.next ∧ ∀ j, j < hp.next → hp2.get j = hp.get j :=
      ⟨_, store30 hu10 (c := z30) rfl (get_new_next _ _), load30 hu10 (put_new _ _ _), by show hp.next ≤ hp.next + 1; omega, fun j hj => by rw [get_put_ne _ _ (by omega), get_new_ne _ _ (by omega)]⟩
    have hi2 := hi.over hnx hold
    have ho2 := ho.over hnx hold
    obtain ⟨out1, O1, hp3, c17, p1⟩ := ih u hmem (f + 1) inner out I O hp2 (by omega) hi2 ho2 ha hI (by omega)
    have hi3 := hi2.stay ha p1.nxt p1.fr
    obtain ⟨out2, O2, hp4, c2, p2⟩ := ihm (j + 1) f out1 O1 hp3 (by omega) (by omega) hi3 p1.acc (p1.apart hi2 ha) hI (by have := p1.len; omega)
    refine ⟨out2, O2, hp4, fun k => ?_, ((p1.ahead hnx hold).trans p2).weak (by rw [Nat.add_mul, Nat.one_mul]; omega) fun s hs hi => ?_⟩
    · have c17' : ∀ K : PV → Hp → Option PV, callF tys fnsV orcF (run tys fnsV orcF (f + 1)) 17 [.agg u, inner, out] hp2 K = K out1 hp3 := fun K => by
        rw [call_own fnsV17 rfl rfl rfl rfl]; exact c17 K
      simp only [l17s_0_eq, ev_loop, ev_seq, r17s_4a, primBin_eq, bin_int, int_lss, ofNat_ble, hlt, Bool.not_false, ret1_some', bP_some, seqK_normal, ev_cond, opd_tmp, alget, Nat.reduceEqDiff, reduceIte, bB_true, ev_skip, ev_block, r17s_5a, h1, h2, alloc30, st1, r17s_6a, ld1, c17', blockK_normal, r17s_7a, hadd]
      rw [run_succ]
      have := c2 k
      simp only [l17s_0_eq] at this
      exact this
    · obtain ⟨w, hw, hfv⟩ := hs
      obtain ⟨g1, g2⟩ := List.getElem?_eq_some_iff.1 hu
      rw [List.drop_eq_getElem_cons g1, g2] at hw
      rcases List.mem_cons.1 hw with rfl | hw
      · exact .inl hfv
      · exact .inr ⟨w, hw, hfv⟩
end
end Go.Ev
