/- Expressions' trees, for free and demands. -/
import Derived.Test.YtmlnfoabpcccnaaGreatEvDd
set_option linter.all false
namespace Go.Ev
open Go.Proofs
open A (Str formed)
def Rf (N : Nat) (c : PV) : Prop := ∀ m, N ≤ m → peq m c c = true
theorem Rf.mono {N M : Nat} (h : N ≤ M) {c : PV} (hc : Rf N c) : Rf M c := fun m hm => hc m (by omega)
theorem peqL_rf {N : Nat} : ∀ {l : List PV} {m : Nat}, (∀ c ∈ l, Rf N c) → N + l.length + 1 ≤ m → peqL m l l = true
  | [], m, _, hm => by
    obtain ⟨m, rfl⟩ : ∃ k, m = k + 1 := ⟨m - 1, by omega⟩
    rfl
  | c :: l, m, h, hm => by
    obtain ⟨m, rfl⟩ : ∃ k, m = k + 1 := ⟨m - 1, by omega⟩
    rw [List.length_cons] at hm
    show (peq m c c && peqL m l l) = true
    rw [h c (List.mem_cons_self ..) m (by omega), peqL_rf (fun x hx => h x (List.mem_cons_of_mem _ hx)) (by omega)]
    rfl
theorem peqE_rf {N s : Nat} : ∀ {es : List (List PV)} {m : Nat}, (∀ e ∈ es, e.length ≤ s ∧ ∀ c ∈ e, Rf N c) → N + s + es.length + 2 ≤ m → peqE m es es = true
  | [], m, _, hm => by
    obtain ⟨m, rfl⟩ : ∃ k, m = k + 1 := ⟨m - 1, by omega⟩
    rfl
  | e :: es, m, h, hm => by
    obtain ⟨m, rfl⟩ : ∃ k, m = k + 1 := ⟨m - 1, by omega⟩
    rw [List.length_cons] at hm
    obtain ⟨h1, h2⟩ := h e (List.mem_cons_self ..)
    show (peqL m e e && peqE m es es) = true
    rw [peqL_rf h2 (by omega), peqE_rf (fun x hx => h x (List.mem_cons_of_mem _ hx)) (by omega)]
    rfl
theorem Rf.sl {N s : Nat} {es : List (List PV)} {ex : Bool} (h : ∀ e ∈ es, e.length ≤ s ∧ ∀ c ∈ e, Rf N c) : Rf (N + s + es.length + 3) (.sl es ex) := fun m hm => by
  obtain ⟨m, rfl⟩ : ∃ k, m = k + 1 := ⟨m - 1, by omega⟩
  show ((!ex || ex) && peqE m es es) = true
  rw [peqE_rf h (by omega)]
  cases ex <;> rfl
theorem Rf.agg {N : Nat} {cs : List PV} (h : ∀ c ∈ cs, Rf N c) : Rf (N + cs.length + 2) (.agg cs) := fun m hm => by
  obtain ⟨m, rfl⟩ : ∃ k, m = k + 1 := ⟨m - 1, by omega⟩
  exact peqL_rf h (by omega)
theorem bytesEq_rfl : ∀ (l : List UInt8), bytesEq l l = true
  | [] => rfl
  | c :: l => by unfold bytesEq; rw [Nat.beq_refl, bytesEq_rfl l]
theorem Rf.str (t : List UInt8) : Rf 20 (Str t) := fun m hm => by
  obtain ⟨m, rfl⟩ : ∃ k, m = k + 1 := ⟨m - 1, by omega⟩
  exact bytesEq_rfl t
theorem Rf.nl : Rf 20 nl := fun m hm => by
  obtain ⟨m, rfl⟩ : ∃ k, m = k + 1 := ⟨m - 1, by omega⟩
  rfl
theorem Rf.i (n : Nat) : Rf 20 (i n) := fun m hm => by
  obtain ⟨m, rfl⟩ : ∃ k, m = k + 1 := ⟨m - 1, by omega⟩
  show (decide (IntKind.i64 = IntKind.i64) && ieqb (.ofNat n) (.ofNat n)) = true
  have : ieqb (.ofNat n) (.ofNat n) = true := Nat.beq_refl n
  rw [this]; rfl
theorem ids_formed {c : PV} (h : formed c) (n : Nat) {f : Nat} (hf : 0 < f) : idsLt f n c = true := by
  obtain ⟨f, rfl⟩ : ∃ k, f = k + 1 := ⟨f - 1, by omega⟩
  rcases h.1 with ⟨x, rfl⟩ | ⟨es, ex, rfl⟩ <;> rfl
theorem ids_agg {cs : List PV} (h : ∀ c ∈ cs, formed c) (n : Nat) : idsLt 1000 n (.agg cs) = true := by
  show cs.all (idsLt 999 n) = true
  exact List.all_eq_true.2 fun c hc => ids_formed (h c hc) n (by omega)
/-- a list of a tree's parts -/
def Ls (p : PV) (ks : List (List PV)) : Prop := (p = nl ∧ ks = []) ∨ ∃ ex, p = .sl ks ex
/-- a clause's own expression; the pattern that is all of its patterns -/
def body (c : List PV) : List PV := (c.drop 8).take 10
def wh (p : PV) : List PV := [i 7, i 0, sb [], p, nl]
/-- a text that stands in patterns -/
def PatStr (p : PV) (s : List UInt8) : Prop := ∃ es ex e, p = .sl es ex ∧ e ∈ es ∧ (Str s ∈ e ∨ ∃ fs ex' f, PV.sl fs ex' ∈ e ∧ f ∈ fs ∧ Str s ∈ f)
def lsP : List (List UInt8) → PV
  | [] => nl
  | v :: r => .sl (tx (v :: r)) false
section
variable [E : Env]
def P36 (w : List PV) (p : PV) (vs : List (List UInt8)) : Prop := vs.length ≤ 1 ∧ (∀ v ∈ vs, PatStr p v) ∧ Known Tryz.prog 36 [.agg w] (lsP vs)
/-- a clause, but for its own expression -/
structure Cl (c : List PV) : Prop where
  len : c.length = 19
  fm : ∀ x ∈ c, formed x
  rf : ∀ x ∈ c.take 8 ++ c.drop 18, Rf 20 x
  pat : ∃ p r, c = p :: r ∧ Known Tryz.prog 37 [.agg c] (.agg (wh p)) ∧ ∃ vs, P36 (wh p) p vs
inductive Et : Nat → List PV → Prop where
  | mk {n kd : Nat} {t : List UInt8} {c1 c2 kp ky cp ty c8 c9 : PV} {ks cs : List (List PV)} :
    (∀ c ∈ [c1, c2, kp, ky, cp, ty, c8, c9], formed c) → (∀ c ∈ [c1, c2, ky, ty, c8, c9], Rf 20 c) → Ls kp ks → ks.length ≤ 2 → (∀ k ∈ ks, Et n k) →
    Ls cp cs → cs.length ≤ 2 → (∀ c ∈ cs, Cl c) → (∀ c ∈ cs, Et n (body c)) →
    Et (n + 1) [i kd, c1, c2, Str t, kp, ky, cp, ty, c8, c9]
def QQ : Nat → Nat
  | 0 => 20
  | n + 1 => QQ n + 50
theorem clause_cut {c : List PV} (h : c.length = 19) : c = c.take 8 ++ (body c ++ c.drop 18) := by
  have h1 : c = c.take 8 ++ c.drop 8 := (List.take_append_drop 8 c).symm
  have h2 : c.drop 8 = (c.drop 8).take 10 ++ (c.drop 8).drop 10 := (List.take_append_drop 10 _).symm
  have h3 : (c.drop 8).drop 10 = c.drop 18 := by rw [List.drop_drop]
  unfold body
  rw [← h3, ← h2, ← h1]
theorem Et.facts {n : Nat} {X : List PV} (h : Et n X) : X.length = 10 ∧ (∀ c ∈ X, formed c) ∧ ∀ c ∈ X, Rf (QQ n) c := by
  induction h with
  | @mk n kd t c1 c2 kp ky cp ty c8 c9 ks cs h1 h2 h3 h4 h5 h6 h7 h8 h9 ih1 ih2 =>
    have hq : 20 ≤ QQ n := by
      clear h5 h9 ih1 ih2
      induction n with
      | zero => exact Nat.le_refl _
      | succ n ih => unfold QQ; omega
    refine ⟨rfl, fun c hc => ?_, fun c hc => ?_⟩
    · simp only [List.mem_cons, List.not_mem_nil, or_false] at hc h1
      rcases hc with rfl | rfl | rfl | rfl | rfl | rfl | rfl | rfl | rfl | rfl
      · exact ⟨.inl ⟨_, rfl⟩, rfl⟩
      · exact h1 _ (by simp)
      · exact h1 _ (by simp)
      · exact ⟨.inl ⟨_, rfl⟩, rfl⟩
      · exact h1 _ (by simp)
      · exact h1 _ (by simp)
      · exact h1 _ (by simp)
      · exact h1 _ (by simp)
      · exact h1 _ (by simp)
      · exact h1 _ (by simp)
    · have hk : Rf (QQ n + 50) kp := by
        rcases h3 with ⟨rfl, _⟩ | ⟨ex, rfl⟩
        · exact Rf.nl.mono (by omega)
        · exact (Rf.sl (N := QQ n) (s := 10) fun e he => ⟨by rw [(ih1 e he).1]; omega, (ih1 e he).2.2⟩).mono (by omega)
      have hcl : Rf (QQ n + 50) cp := by
        rcases h6 with ⟨rfl, _⟩ | ⟨ex, rfl⟩
        · exact Rf.nl.mono (by omega)
        · refine (Rf.sl (N := QQ n) (s := 19) fun e he => ⟨by rw [(h8 e he).len]; omega, fun x hx => ?_⟩).mono (by omega)
          have g1 := (h8 e he).len
          have g3 := (h8 e he).rf
          rw [clause_cut g1] at hx
          rcases List.mem_append.1 hx with hx | hx
          · exact (g3 x (List.mem_append_left _ hx)).mono hq
          rcases List.mem_append.1 hx with hx | hx
          · exact (ih2 e he).2.2 x hx
          · exact (g3 x (List.mem_append_right _ hx)).mono hq
      have ho : ∀ c ∈ [c1, c2, ky, ty, c8, c9], Rf (QQ n + 50) c := fun c hc => (h2 c hc).mono (by omega)
      simp only [List.mem_cons, List.not_mem_nil, or_false] at hc
      show Rf (QQ n + 50) c
      rcases hc with rfl | rfl | rfl | rfl | rfl | rfl | rfl | rfl | rfl | rfl
      · exact (Rf.i _).mono (by omega)
      · exact ho _ (by simp)
      · exact ho _ (by simp)
      · exact (Rf.str _).mono (by omega)
      · exact hk
      · exact ho _ (by simp)
      · exact hcl
      · exact ho _ (by simp)
      · exact ho _ (by simp)
      · exact ho _ (by simp)
theorem QQ_le {n : Nat} (h : n ≤ 16) : QQ n ≤ 820 := by
  have : ∀ n, QQ n = 20 + 50 * n := by
    intro n
    induction n with
    | zero => rfl
    | succ n ih => rw [QQ, ih]; omega
  rw [this]; omega
theorem Et.mono {n : Nat} {X : List PV} (h : Et n X) : ∀ {m : Nat}, n ≤ m → Et m X := by
  induction h with
  | mk h1 h2 h3 h4 h5 h6 h7 h8 h9 ih1 ih2 =>
    intro m hm
    obtain ⟨m, rfl⟩ : ∃ k, m = k + 1 := ⟨m - 1, by omega⟩
    exact .mk h1 h2 h3 h4 (fun k hk => ih1 k hk (by omega)) h6 h7 h8 fun c hc => ih2 c hc (by omega)
end
/-- a variable that is free in a tree -/
inductive Fv : List PV → List UInt8 → Prop where
  | var {X : List PV} {t : List UInt8} : X[0]? = some (i 5) → X[3]? = some (Str t) → Fv X t
  | kid {X k : List PV} {ks : List (List PV)} {ex : Bool} {s : List UInt8} : X[4]? = some (.sl ks ex) → k ∈ ks → Fv k s → Fv X s
  | bod {X c : List PV} {p : PV} {cs : List (List PV)} {ex : Bool} {s : List UInt8} : X[6]? = some (.sl cs ex) → c ∈ cs → c[0]? = some p → Fv (body c) s → ¬ PatStr p s → Fv X s
end Go.Ev
