/- Control and calls: what the evaluator comes to, the code comes to. -/
import Derived.Test.YtmlnfoabpcccnaaGreatEvAh
set_option linter.all false
namespace Go.Ev
variable [Env]
section
variable {P : Program} {T : Types} {R : Type}

def Ex.toExit : Ex → Exit
  | .normal => .normal
  | .exit i => .exit i
  | .ret => .ret

/-- what stands behind a piece of code -/
def Behind (nt : Nat) (st' : St) (w : World) (F : Fz) (M : Mp) (a : Act) (K : Act → World → Prop) : Prop :=
  ∀ w' F' M' a', TS st'.tmps a' w' F' M' → HS st'.hp w' F' M' → Ext w w' F F' M M' → a'.tmps.size = nt → a'.defers = a.defers → K a' w'

theorem Behind.trans {nt : Nat} {st' : St} {w w1 : World} {F F1 : Fz} {M M1 : Mp} {a a1 : Act} {K : Act → World → Prop} (h : Behind nt st' w F M a K) (hx : Ext w w1 F F1 M M1) (hd : a1.defers = a.defers) :
    Behind nt st' w1 F1 M1 a1 K := fun w' F' M' a' h1 h2 h3 h4 h5 => h w' F' M' a' h1 h2 (hx.trans h3) h4 (h5.trans hd)

/-- regions that draw their order -/
def DrawSound (P : Program) (T : Types) (R : Type) : Prop := ∀ (call : CallK R), UniCall call → SoundCall P call → ∀ (nt id : Nat) (ops : Array Oper) (L : List (Nat × Nat)) (st st' : St), schedOk ops.toList L = true →
  (∀ k, evOpsD T nt ops.toList L ⟨[], [], []⟩ call st k = k st') → ∀ (a : Act) (w : World) (F : Fz) (M : Mp) (Q : Exit → Act → World → Prop), TS st.tmps a w F M → HS st.hp w F M → a.tmps.size = nt →
    Behind nt st' w F M a (Q .normal) → (Code.region id ops true).wp P Q a w

/-- what is known of the functions that are run -/
def FTOk (P : Program) (FT : Fns) : Prop := ∀ f fi, FT.get f = some fi → P.funcs[f]? = some fi.fn ∧ (fi.fn.name == "runtime.NumGoroutine") = false ∧ (∀ c, fi.fn.body = some c → codeOk fi c = true) ∧ (fi.fn.body = none → Extern.findNext fi.fn = none ∧ (fi.frz = false → Extern.find fi.fn = some Extern.AbiNoEscape.same) ∧ (fi.frz = true → Extern.find fi.fn = some Extern.BytealgCompare.compare))

/-- the function f, called with values of its own ds, answers q -/
def Known (P : Program) (f : Nat) (ds : List PV) (q : PV) : Prop := Enters P f ∧ ∀ (w : World) (F : Fz) (args : Array Value), (∀ b o, F b o → b < w.heap.size) → VRs w F noMap ds args.toList →
  Calls P f args w fun e w' => ∃ v F', e = .returned v ∧ VR w' F' noMap q v ∧ (∀ b o, F' b o → b < w'.heap.size) ∧ Ext w w' F F' noMap noMap

/-- the function f, called with a pointer to a block of the cells cs (and, where it points at a second one, of that one's cells) and with values of its own ds, answers q and leaves the cells cs' there -/
def KnownS (P : Program) (f ty : Nat) (cs ds : List PV) (q : PV) (cs' : List PV) : Prop := Enters P f ∧ ∀ (w : World) (F : Fz) (M : Mp) (args : Array Value),
  HS (startS ty cs) w F M → VRs w F M (.ptr 0 0 :: ds) args.toList →
  Calls P f args w fun e w' => ∃ v F', e = .returned v ∧ VR w' F' noMap q v ∧ HS (startS ty cs') w' F' M ∧ Ext w w' F F' M M

/-- an answer of the oracle is right -/
def KnownX (P : Program) (f : Nat) (ds : List PV) (q : PV) : Prop := match unKey ds with
  | some (ty, cs, r) => ∃ q1 cs', q = .tup [q1, .tup cs'] ∧ KnownS P f ty cs r q1 cs'
  | none => Known P f ds q

/-- the answers that are known already -/
def OrcOk (P : Program) (O : Orc) : Prop := ∀ f ds q, O f ds = some q → KnownX P f ds q

theorem TS.keep {tm : Tm} {a : Act} {w : World} {F : Fz} {M : Mp} (h : TS tm a w F M) (ks : List Nat) : TS (Al.keep tm ks) a w F M := fun t p hp => h t p (Al.get_keep tm ks t p hp)

theorem HS.killAll {w : World} {F : Fz} {M : Mp} (tm : Tm) : ∀ (l : List Nat) {hp : Hp}, HS hp w F M → HS (killAll tm l hp) w F M
  | [], _, h => h
  | t :: r, hp, h => by
    unfold Ev.killAll
    split
    · exact HS.killAll tm r (h.kill _)
    · exact HS.killAll tm r (h.kill _)
    · exact HS.killAll tm r h
theorem HS.swept {w : World} {F : Fz} {M : Mp} (kl : Option (List Nat)) (tm : Tm) {hp : Hp} (h : HS hp w F M) : HS (swept kl tm hp) w F M := by
  cases kl with
  | none => exact h
  | some l => exact h.killAll tm l

theorem kept_st (r : R) {x : (St → Option R) → Option R} (hu : Uni x) {ks kl : Option (List Nat)} {ex : Ex} {st' : St} (e : ∀ k, x (kept ks kl k) = k ex st') :
    ex = .normal ∧ ∃ s, (∀ k, x k = k s) ∧ (∀ {w : World} {F : Fz} {M : Mp}, HS s.hp w F M → HS st'.hp w F M) ∧ ∀ {a : Act} {w : World} {F : Fz} {M : Mp}, TS s.tmps a w F M → TS st'.tmps a w F M := by
  rcases hu with g | ⟨s, g⟩
  · have := e fun _ _ => some r
    rw [g] at this; cases this
  · cases ks with
    | none =>
      have e' : ∀ k : Ex → St → Option R, k .normal ⟨s.tmps, swept kl s.tmps s.hp⟩ = k ex st' := fun k => by rw [← e k, g]; rfl
      obtain ⟨h1, h2⟩ := Uni2.eq_of r e'
      subst h1; subst h2
      exact ⟨rfl, s, g, fun h => h.swept kl s.tmps, fun h => h⟩
    | some ks =>
      have e' : ∀ k : Ex → St → Option R, k .normal ⟨Al.keep s.tmps ks, swept kl s.tmps s.hp⟩ = k ex st' := fun k => by rw [← e k, g]; rfl
      obtain ⟨h1, h2⟩ := Uni2.eq_of r e'
      subst h1; subst h2
      exact ⟨rfl, s, g, fun h => h.swept kl s.tmps, fun h => h.keep ks⟩

theorem exists_least {p : Nat → Prop} (h : ∃ n, p n) : ∃ n, p n ∧ ∀ m, p m → n ≤ m := by
  obtain ⟨n, hn⟩ := h
  induction n using Nat.strongRecOn with
  | _ n ih =>
    by_cases hs : ∃ m, m < n ∧ p m
    · obtain ⟨m, h1, h2⟩ := hs
      exact ih m h1 h2
    · refine ⟨n, hn, fun m hm => ?_⟩
      rcases Nat.lt_or_ge m n with h | h
      · exact (hs ⟨m, h, hm⟩).elim
      · exact h

theorem evC_sound (r : R) (hT : TOk P T) (hD : DrawSound P T R) {FT : Fns} {O : Orc} (fi : FI) (m : Nat) (hcs : ∀ m', m' ≤ m → SoundCall P (callF (R := R) T FT O (run T FT O m'))) :
    ∀ (c : Code), codeOk fi c = true → ∀ m', m' ≤ m → ∀ (st : St) (ex : Ex) (st' : St), (∀ k, evC (R := R) T fi c (callF T FT O (run T FT O m')) (run T FT O m') st k = k ex st') →
      ∀ (a : Act) (w : World) (F : Fz) (M : Mp) (Q : Exit → Act → World → Prop), TS st.tmps a w F M → HS st.hp w F M → a.tmps.size = fi.fn.ntmps → Behind fi.fn.ntmps st' w F M a (Q ex.toExit) → c.wp P Q a w
  | .skip, _, m', hm, st, ex, st', e, a, w, F, M, Q, ht, hs, hn, hq => by
    obtain ⟨rfl, rfl⟩ := Uni2.eq_of r e
    exact wp_skip (hq w F M a ht hs (Ext.refl w F M) hn rfl)
  | .exit id, _, m', hm, st, ex, st', e, a, w, F, M, Q, ht, hs, hn, hq => by
    obtain ⟨rfl, rfl⟩ := Uni2.eq_of r e
    exact wp_exit (hq w F M a ht hs (Ext.refl w F M) hn rfl)
  | .ret, _, m', hm, st, ex, st', e, a, w, F, M, Q, ht, hs, hn, hq => by
    obtain ⟨rfl, rfl⟩ := Uni2.eq_of r e
    exact wp_ret (hq w F M a ht hs (Ext.refl w F M) hn rfl)
  | .region id ops draw, hok, m', hm, st, ex, st', e, a, w, F, M, Q, ht, hs, hn, hq => by
    have hu : UniCall (callF (R := R) T FT O (run T FT O m')) := callF_uni (run_uni FT O m') FT O
    unfold evC at e
    cases draw with
    | false =>
      simp only [] at e
      obtain ⟨rfl, s, h1, h2, h3⟩ := kept_st r (evOps_uni hu _ _ _ _) e
      exact wp_region_list (evOps_sound r hT hu (hcs m' hm) _ st h1 a w F M ht hs hn fun w' F' M' a' g1 g2 g3 g4 g5 => hq w' F' M' a' (h3 g1) (h2 g2) g3 g4 g5)
    | true =>
      simp only [] at e
      cases hl : fi.sched.get id with
      | none =>
        simp only [hl] at e
        have := e fun _ _ => some r
        cases this
      | some L =>
        simp only [hl] at e
        simp only [codeOk, hl] at hok
        obtain ⟨rfl, s, h1, h2, h3⟩ := kept_st r (evOpsD_uni hu _ _ _ _ _) e
        exact hD _ hu (hcs m' hm) _ id ops L st s hok h1 a w F M Q ht hs hn fun w' F' M' a' g1 g2 g3 g4 g5 => hq w' F' M' a' (h3 g1) (h2 g2) g3 g4 g5
  | .seq x y, hok, m', hm, st, ex, st', e, a, w, F, M, Q, ht, hs, hn, hq => by
    simp only [codeOk, Bool.and_eq_true] at hok
    have hu : UniCall (callF (R := R) T FT O (run T FT O m')) := callF_uni (run_uni FT O m') FT O
    unfold evC at e
    rcases evC_uni (T := T) hu (run_uni FT O m') fi x st with g | ⟨ex1, st1, g⟩
    · have g' : ∀ k, evC (R := R) T fi x (callF T FT O (run T FT O m')) (run T FT O m') st k = none := g
      have := e fun _ _ => some r
      rw [g'] at this; cases this
    · have g' : ∀ k, evC (R := R) T fi x (callF T FT O (run T FT O m')) (run T FT O m') st k = k ex1 st1 := g
      refine wp_seq (evC_sound r hT hD fi m hcs x hok.1 m' hm st ex1 st1 g' a w F M _ ht hs hn ?_)
      intro w1 F1 M1 a1 h1 h2 h3 h4 h5
      cases ex1 with
      | normal =>
        have e' : ∀ k, evC (R := R) T fi y (callF T FT O (run T FT O m')) (run T FT O m') st1 k = k ex st' := fun k => by rw [← e k, g']; rfl
        exact evC_sound r hT hD fi m hcs y hok.2 m' hm st1 ex st' e' a1 w1 F1 M1 Q h1 h2 h4 (hq.trans h3 h5)
      | exit i =>
        have e' : ∀ k : Ex → St → Option R, k (.exit i) st1 = k ex st' := fun k => by rw [← e k, g']; rfl
        obtain ⟨rfl, rfl⟩ := Uni2.eq_of r e'
        exact hq w1 F1 M1 a1 h1 h2 h3 h4 h5
      | ret =>
        have e' : ∀ k : Ex → St → Option R, k .ret st1 = k ex st' := fun k => by rw [← e k, g']; rfl
        obtain ⟨rfl, rfl⟩ := Uni2.eq_of r e'
        exact hq w1 F1 M1 a1 h1 h2 h3 h4 h5
  | .cond c x y, hok, m', hm, st, ex, st', e, a, w, F, M, Q, ht, hs, hn, hq => by
    simp only [codeOk, Bool.and_eq_true] at hok
    unfold evC at e
    cases ho : opd c st.tmps with
    | none =>
      simp only [ho] at e
      have := e fun _ _ => some r
      cases this
    | some p =>
      simp only [ho] at e
      have hv := ht.opd ho
      split at e
      · rename_i heq
        cases heq
        generalize hcv : a.eval c = v at hv
        cases hv
        exact wp_cond_true hcv (evC_sound r hT hD fi m hcs x hok.1 m' hm st ex st' e a w F M Q ht hs hn hq)
      · rename_i heq
        cases heq
        generalize hcv : a.eval c = v at hv
        cases hv
        exact wp_cond_false hcv (evC_sound r hT hD fi m hcs y hok.2 m' hm st ex st' e a w F M Q ht hs hn hq)
      · have := e fun _ _ => some r
        cases this
  | .block id c, hok, m', hm, st, ex, st', e, a, w, F, M, Q, ht, hs, hn, hq => by
    simp only [codeOk] at hok
    have hu : UniCall (callF (R := R) T FT O (run T FT O m')) := callF_uni (run_uni FT O m') FT O
    unfold evC at e
    rcases evC_uni (T := T) hu (run_uni FT O m') fi c st with g | ⟨ex1, st1, g⟩
    · have g' : ∀ k, evC (R := R) T fi c (callF T FT O (run T FT O m')) (run T FT O m') st k = none := g
      have := e fun _ _ => some r
      rw [g'] at this; cases this
    · have g' : ∀ k, evC (R := R) T fi c (callF T FT O (run T FT O m')) (run T FT O m') st k = k ex1 st1 := g
      have e' : ∀ k : Ex → St → Option R, blockK id k ex1 st1 = k ex st' := fun k => by rw [← e k, g']
      refine wp_block (evC_sound r hT hD fi m hcs c hok m' hm st ex1 st1 g' a w F M _ ht hs hn ?_)
      intro w1 F1 M1 a1 h1 h2 h3 h4 h5
      cases ex1 with
      | normal =>
        obtain ⟨rfl, rfl⟩ := Uni2.eq_of r e'
        exact hq w1 F1 M1 a1 h1 h2 h3 h4 h5
      | ret =>
        obtain ⟨rfl, rfl⟩ := Uni2.eq_of r e'
        exact hq w1 F1 M1 a1 h1 h2 h3 h4 h5
      | exit i =>
        simp only [Ex.toExit, Exit.inBlock]
        cases hi : Nat.beq i id with
        | true =>
          simp only [blockK, hi] at e'
          obtain ⟨rfl, rfl⟩ := Uni2.eq_of r e'
          rw [if_pos (Nat.eq_of_beq_eq_true hi)]
          exact hq w1 F1 M1 a1 h1 h2 h3 h4 h5
        | false =>
          simp only [blockK, hi] at e'
          obtain ⟨rfl, rfl⟩ := Uni2.eq_of r e'
          rw [if_neg (fun h => by subst h; simp at hi)]
          exact hq w1 F1 M1 a1 h1 h2 h3 h4 h5
  | .loop c, hok, m', hm, st, ex, st', e, a, w, F, M, Q, ht, hs, hn, hq => by
    simp only [codeOk] at hok
    classical
    let I : Nat → Act → World → Prop := fun q a1 w1 => q ≤ m' ∧ ∃ st1 F1 M1, TS st1.tmps a1 w1 F1 M1 ∧ HS st1.hp w1 F1 M1 ∧ Ext w w1 F F1 M M1 ∧ a1.tmps.size = fi.fn.ntmps ∧ a1.defers = a.defers ∧
      ∀ k, evC (R := R) T fi (.loop c) (callF T FT O (run T FT O q)) (run T FT O q) st1 k = k ex st'
    let μ : Act → World → Nat := fun a1 w1 => if h : ∃ q, I q a1 w1 then Classical.choose (exists_least h) else 0
    have h0 : ∃ q, I q a w := ⟨m', Nat.le_refl _, st, F, M, ht, hs, Ext.refl w F M, hn, rfl, e⟩
    refine wp_loop (fun a1 w1 => ∃ q, I q a1 w1) μ h0 ?_
    intro a1 w1 hI
    have hμ : μ a1 w1 = Classical.choose (exists_least hI) := dif_pos hI
    obtain ⟨⟨hle, st1, F1, M1, g1, g2, g3, g4, g5, g6⟩, _⟩ := Classical.choose_spec (exists_least hI)
    rw [← hμ] at hle g6
    generalize hq' : μ a1 w1 = q at hle g6
    have hu : UniCall (callF (R := R) T FT O (run T FT O q)) := callF_uni (run_uni FT O q) FT O
    unfold evC at g6
    rcases evC_uni (T := T) hu (run_uni FT O q) fi c st1 with g | ⟨ex2, st2, g⟩
    · have g' : ∀ k, evC (R := R) T fi c (callF T FT O (run T FT O q)) (run T FT O q) st1 k = none := g
      have := g6 fun _ _ => some r
      rw [g'] at this; cases this
    · have g' : ∀ k, evC (R := R) T fi c (callF T FT O (run T FT O q)) (run T FT O q) st1 k = k ex2 st2 := g
      refine evC_sound r hT hD fi m hcs c hok q (Nat.le_trans hle hm) st1 ex2 st2 g' a1 w1 F1 M1 _ g1 g2 g4 ?_
      intro w2 F2 M2 a2 k1 k2 k3 k4 k5
      cases ex2 with
      | normal =>
        have e' : ∀ k, run (R := R) T FT O q fi (.loop c) st2 k = k ex st' := fun k => by rw [← g6 k, g']; rfl
        cases q with
        | zero =>
          have := e' fun _ _ => some r
          cases this
        | succ n =>
          have hI2 : I n a2 w2 := ⟨by omega, st2, F2, M2, k1, k2, g3.trans k3, k4, k5.trans g5, e'⟩
          have hex : ∃ q, I q a2 w2 := ⟨n, hI2⟩
          refine ⟨hex, ?_⟩
          have : μ a2 w2 = Classical.choose (exists_least hex) := dif_pos hex
          rw [this]
          exact Nat.lt_succ_of_le ((Classical.choose_spec (exists_least hex)).2 n hI2)
      | exit i =>
        have e' : ∀ k : Ex → St → Option R, k (.exit i) st2 = k ex st' := fun k => by rw [← g6 k, g']; rfl
        obtain ⟨rfl, rfl⟩ := Uni2.eq_of r e'
        exact hq w2 F2 M2 a2 k1 k2 (g3.trans k3) k4 (k5.trans g5)
      | ret =>
        have e' : ∀ k : Ex → St → Option R, k .ret st2 = k ex st' := fun k => by rw [← g6 k, g']; rfl
        obtain ⟨rfl, rfl⟩ := Uni2.eq_of r e'
        exact hq w2 F2 M2 a2 k1 k2 (g3.trans k3) k4 (k5.trans g5)
  | .scope _, _, m', hm, st, ex, st', e, a, w, F, M, Q, ht, hs, hn, hq => by
    have := e fun _ _ => some r
    cases this
  | .rangeFunc .., _, m', hm, st, ex, st', e, a, w, F, M, Q, ht, hs, hn, hq => by
    have := e fun _ _ => some r
    cases this
  | .label _, _, m', hm, st, ex, st', e, a, w, F, M, Q, ht, hs, hn, hq => by
    have := e fun _ _ => some r
    cases this
  | .goto _, _, m', hm, st, ex, st', e, a, w, F, M, Q, ht, hs, hn, hq => by
    have := e fun _ _ => some r
    cases this
  | .refuse _, _, m', hm, st, ex, st', e, a, w, F, M, Q, ht, hs, hn, hq => by
    have := e fun _ _ => some r
    cases this
end
end Go.Ev
