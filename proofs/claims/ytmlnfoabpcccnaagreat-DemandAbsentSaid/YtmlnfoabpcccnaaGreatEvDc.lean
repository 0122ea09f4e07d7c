/- The text generator: what its functions answer. -/
import Derived.Test.YtmlnfoabpcccnaaGreatEvDb
import Derived.Test.YtmlnfoabpcccnaaGreatEvCh
import Derived.Test.YtmlnfoabpcccnaaGreatEvBj
import Derived.Test.YtmlnfoabpcccnaaGreatEvBg
import Derived.Test.YtmlnfoabpcccnaaGreatEvCi
set_option linter.all false
/- The text generator: what its functions answer. -/
namespace Go.Ev.A
open Go.Proofs
theorem Sat.more {p : Pm} {n m : Nat} {Γ : Ctx} {σ : Nat → PV} (H : Sat p n Γ σ) (h : n ≤ m) : Sat p m Γ σ where
  fit := H.fit
  lst := H.lst
  pos := Nat.lt_of_lt_of_le H.pos h
  ok := fun k t hk => by
    obtain ⟨h1, h2, h3⟩ := H.ok k t hk
    exact ⟨by omega, h2, Ty.sc_mono h h3⟩
theorem src_formed {lp : PV} (h : SrcL lp) : formed lp := by
  obtain ⟨zs, h1 | h1, h2⟩ := h
  · obtain ⟨rfl, _⟩ := h1
    exact ⟨.inl ⟨_, rfl⟩, rfl⟩
  · obtain ⟨ex, rfl⟩ := h1
    clear h2
    refine ⟨.inr ⟨_, _, rfl⟩, ?_⟩
    simp only [clean]
    induction zs with
    | nil => rfl
    | cons z zs ih => simp only [List.map_cons, cleanE, cleanL, clean, Bool.and_true, Bool.true_and]; exact ih
theorem env_formed {hi : Nat} {x : PV} (h : EnvOk hi x) : formed x := by
  obtain ⟨es, rfl, g1, g2, h⟩ := h
  clear g1 g2
  refine ⟨.inr ⟨_, _, rfl⟩, ?_⟩
  simp only [clean]
  induction es with
  | nil => rfl
  | cons e es ih =>
    obtain ⟨t, c, rfl, _⟩ := h e (List.mem_cons_self ..)
    simp only [cleanE, cleanL, clean, Bool.and_true, Bool.true_and]
    exact ih fun e he => h e (List.mem_cons_of_mem _ he)
theorem base_sat (p : Pm) (hl : formed p.lp) (hd : 1 ≤ p.d ∧ p.d ≤ 3) (a s : Nat) (hs : s < 8) (env : PV) (he : EnvOk p.hi env) :
    ∃ σ, Sat p 10 ctx0 σ ∧ σ 1 = I a ∧ σ 2 = I p.m0 ∧ σ 3 = I p.d ∧ σ 4 = I s ∧ σ 5 = env := by
  have H0 : Sat p 1 [] (fun n => if n = 0 then p.lp else I 0) := ⟨⟨fun n => by
      show (∃ x, (if n = 0 then p.lp else I 0) = .v x) ∨ ∃ es ex, (if n = 0 then p.lp else I 0) = .sl es ex
      split
      · exact hl.1
      · exact .inl ⟨_, rfl⟩, fun n => by
      show clean (if n = 0 then p.lp else I 0) = true
      split
      · exact hl.2
      · rfl⟩, rfl, by omega, fun k t h => by cases h⟩
  have H1 := H0.push (c := I a) ⟨.inl ⟨_, rfl⟩, rfl⟩ (t := .at) ⟨a, rfl⟩ trivial
  have H2 := H1.push (c := I p.m0) ⟨.inl ⟨_, rfl⟩, rfl⟩ (t := .num 0 0) ⟨p.m0, rfl, Nat.le_refl _, by omega⟩ trivial
  have H3 := H2.push (c := I p.d) ⟨.inl ⟨_, rfl⟩, rfl⟩ (t := .dep) ⟨rfl, hd⟩ trivial
  have H4 := H3.push (c := I s) ⟨.inl ⟨_, rfl⟩, rfl⟩ (t := .rng 8) ⟨s, hs, rfl⟩ trivial
  have H5 := H4.push (c := env) (env_formed he) (t := .env) he trivial
  exact ⟨_, H5.more (by omega), rfl, rfl, rfl, rfl, rfl⟩
theorem env_sat {p : Pm} : ∀ (es : List (List PV)) {n : Nat} {Γ : Ctx} {σ : Nat → PV}, Sat p n Γ σ → (∀ e ∈ es, ∃ t c, e = [S t, I c] ∧ t ∈ varTxts ∧ c < 8) →
    ∃ τ, Sat p (n + 2 * es.length) (pushE Γ n es.length) τ ∧ (∀ k, k < n → τ k = σ k) ∧ subE τ (envL n es.length) = es
  | [], n, Γ, σ, H, _ => ⟨σ, H, fun _ _ => rfl, rfl⟩
  | e :: es, n, Γ, σ, H, h => by
    obtain ⟨t, c, rfl, h1, h2⟩ := h e (List.mem_cons_self ..)
    have H1 := H.push (c := S t) ⟨.inl ⟨_, rfl⟩, rfl⟩ (t := .var) ⟨t, h1, rfl⟩ trivial
    have H2 := H1.push (c := I c) ⟨.inl ⟨_, rfl⟩, rfl⟩ (t := .rng 8) ⟨c, h2, rfl⟩ trivial
    obtain ⟨τ, k1, k2, k3⟩ := env_sat es H2 fun k hk => h k (List.mem_cons_of_mem _ hk)
    refine ⟨τ, ?_, fun k hk => by rw [k2 k (by omega), upd_lt (by omega), upd_lt hk], ?_⟩
    · rw [List.length_cons, show n + 2 * (es.length + 1) = n + 1 + 1 + 2 * es.length by omega]; exact k1
    · rw [List.length_cons, envL, subE, k3, subL, subL, Ev.sub, Ev.sub, k2 n (by omega), k2 (n + 1) (by omega), upd_lt (by omega), upd_at, upd_at]; rfl
theorem peqPc_eq : ∀ {a b : List Pc}, peqPc a b = true → a = b
  | [], [], _ => rfl
  | [], _ :: _, h => by simp [peqPc] at h
  | _ :: _, [], h => by
    rename_i x y
    cases x <;> simp [peqPc] at h
  | .b x :: a, .b y :: b, h => by
    simp only [peqPc, Bool.and_eq_true] at h
    rw [Nat.eq_of_beq_eq_true h.1, peqPc_eq h.2]
  | .u x :: a, .u y :: b, h => by
    simp only [peqPc, Bool.and_eq_true] at h
    rw [Nat.eq_of_beq_eq_true h.1, peqPc_eq h.2]
  | .b x :: a, .u y :: b, h => by simp [peqPc] at h
  | .u x :: a, .b y :: b, h => by simp [peqPc] at h
section
variable [E : Env]
theorem num_ok {p : Pm} {n : Nat} {Γ : Ctx} {σ : Nat → PV} (H : Sat p n Γ σ) {x y m : Nat} (h : numB Γ x y m = true) : m < n ∧ ∃ v : Nat, σ m = I v ∧ p.m0 ≤ v ∧ v ≤ p.m0 + x + y * p.N := by
  unfold numB at h
  split at h
  · rename_i x' y' hk
    simp only [Bool.and_eq_true] at h
    obtain ⟨g1, ⟨v, g2, g3, g4⟩, _⟩ := H.ok _ _ hk
    have h1 := Nat.le_of_ble_eq_true h.1
    have h2 := Nat.mul_le_mul_right p.N (Nat.le_of_ble_eq_true h.2)
    exact ⟨g1, v, g2, g3, by omega⟩
  · cases h
/-- a leaf whose result is a text -/
theorem use_text {p : Pm} {fi : FI} {f : Nat} {ds : List PV} {x y h nx ny L n : Nat} {av : Nat → Bool} {w : Wk} {Γ : Ctx} {σ : Nat → PV} {base : Nat}
    (hφ : allL (φT fi ds x y h nx ny) av L w n Γ [] [] = true) (hfi : ∀ [Env], FIOk Tryz.prog f fi) (hp1 : ∀ f ∈ owns, av f = true → p.m0 + 1 + 3 * p.N ≤ 40) (hp2 : p.B ≤ 10000) (hp3 : p.hi ≤ 7) (hp4 : L ≤ p.hi) (F : Facts p av) (H : Sat p n Γ σ) (hn : 3 ≤ n)
    (hds : LowL n ds) (hh : ∀ l, p.hole l → Wr base l) :
    ∃ l a' m', KnownS Tryz.prog f 45 (subL σ (Kc 1 2)) (subL σ ds) (Str l) (mkS p.lp a' m') ∧ p.m0 ≤ m' ∧ m' ≤ p.m0 + nx + ny * p.N ∧ (p.done l ∨ (Wr (base + h) l ∧ l.length ≤ x + y * p.B)) := by
  obtain ⟨lf, τ, hl, H', hc, ho, g⟩ := walk hp1 hp2 hp3 hp4 F w n Γ [] [] σ hφ H (fun e he => by cases he) (fun e he => by cases he)
  simp only [φT, Bool.and_eq_true] at hl
  obtain ⟨r1, r2, r3, r4⟩ := hl
  have hk := leaf_use H'.fit hc ho hfi fnsOk r1
  obtain ⟨_, m', n1, n2, n3⟩ := num_ok H' r3
  obtain ⟨_, a', a1⟩ := at_ok H' r4
  have e1 : subL τ (Kc lf.a lf.m) = mkS p.lp a' m' := by
    simp only [Kc, subL, Ev.sub, H'.lst, n1, a1]; rfl
  rw [e1, low_Kc (a := 1) (m := 2) (by omega) (by omega) (by omega) σ τ g, hds σ τ g] at hk
  unfold resB at r2
  split at r2
  · rename_i tt _
    split at r2
    · rename_i x' y' l hpc
      simp only [Bool.and_eq_true] at r2
      obtain ⟨b1, b2, b3, b4⟩ := r2
      obtain rfl := peqPc_eq b3
      obtain ⟨_, _, q1, q2, _⟩ := pc_ok H' hpc
      have w := tt_sem H' hh tt h b4
      rw [q1] at hk
      have e2 := Nat.mul_le_mul_right p.B (Nat.le_of_ble_eq_true b2)
      have e3 := Nat.le_of_ble_eq_true b1
      exact ⟨_, a', m', hk, n2, n3, .inr ⟨w, by omega⟩⟩
    · cases r2
  · split at r2
    · rename_i hd
      have hq : ∃ l, Ev.sub τ lf.q = Str l ∧ p.done l := by
        generalize lf.q = q at hd
        cases q <;> simp [tyP] at hd
        obtain ⟨_, ⟨l, d1, d2⟩, _⟩ := H'.ok _ _ hd
        exact ⟨l, by rw [Ev.sub]; exact d1, d2⟩
      obtain ⟨l, q1, q2⟩ := hq
      rw [q1] at hk
      exact ⟨l, a', m', hk, n2, n3, .inl q2⟩
    · cases r2
/-! the simple ones -/
variable {lp : PV}
theorem next_f (h : SrcL lp) : ∀ a k, 1 ≤ k → k ≤ 1000 → ∃ x a', x < k ∧ KnownS Tryz.prog 14 67 [lp, I a] [I k] (I x) [lp, I a'] := fun a k h1 h2 => next_ok h a k h1 h2
theorem pickV_lit (i : Nat) : ∃ w, pickV 66 i = .v w := by
  match i with
  | 0 => exact ⟨_, rfl⟩
  | 1 => exact ⟨_, rfl⟩
  | 2 => exact ⟨_, rfl⟩
  | 3 => exact ⟨_, rfl⟩
  | i + 4 => exact ⟨_, rfl⟩
theorem atom_f (h : SrcL lp) (a : Nat) : ∃ i a', i < 4 ∧ KnownS Tryz.prog 66 67 [lp, I a] [] (pickV 66 i) [lp, I a'] := by
  obtain ⟨i, a', hi, hk⟩ := next_f h a 4 (by omega) (by omega)
  refine ⟨i, a', hi, ?_⟩
  have hok := allN_lt atomOk i hi
  let σ : Nat → PV := fun n => match n with | 0 => lp | 1 => I a | 2 => I a' | _ => I 0
  have hf := src_formed h
  have hσ : Fit σ := ⟨fun n => by
    match n with
    | 0 => exact hf.1
    | 1 => exact .inl ⟨_, rfl⟩
    | 2 => exact .inl ⟨_, rfl⟩
    | n + 3 => exact .inl ⟨_, rfl⟩, fun n => by
    match n with
    | 0 => exact hf.2
    | 1 => rfl
    | 2 => rfl
    | n + 3 => rfl⟩
  have hX : @KnownX (E.put σ hσ.form) Tryz.prog 14 (keyS 1 [I 4]) (.tup [I i, .tup (Sc 2)]) := by
    refine KnownX.unsub hσ ?_
    have k1 : subL σ (keyS 1 [I 4]) = .top :: .mp 67 :: .tup [lp, I a] :: [I 4] := by simp only [keyS, Sc, subL, Ev.sub]; rfl
    have k2 : Ev.sub σ (.tup [I i, .tup (Sc 2)]) = .tup [I i, .tup [lp, I a']] := by simp only [Sc, subL, Ev.sub]; rfl
    rw [k1, k2]
    exact ⟨_, _, rfl, hk⟩
  have := (KnownS.sub hσ (P := Tryz.prog) (f := 66) (ty := 67) (cs := Sc 1) (ds := []) (q := pickV 66 i) (cs' := Sc 2)).1 (by
    letI := E.put σ hσ.form
    have hO : OrcOk Tryz.prog (orcL [(14, keyS 1 [I 4], .tup [I i, .tup (Sc 2)])]) := orcL_ok (fun e he => by rcases List.mem_cons.1 he with rfl | he; exact hX; cases he)
    exact knownS_goes (T := tys) tOk mixed fnsOk hO e66ok hok)
  obtain ⟨w, hw⟩ := pickV_lit i
  rw [hw, Ev.sub] at this
  rw [hw]
  exact this
theorem vars_len : varTxts.length = 44 := by kernel_rfl
theorem vtxt_mem {m : Nat} (h : m < 40) : vtxt (m + 1) ∈ varTxts := by
  unfold vtxt
  rw [List.getD_eq_getElem?_getD, List.getElem?_eq_getElem (by rw [vars_len]; omega)]
  exact List.getElem_mem _
theorem fresh_f (h : SrcL lp) (p : Pm) (hp : p.lp = lp) : Spec p 32 := by
  intro a m args ha hm
  have ha : args = [] := ha
  subst ha
  subst hp
  have hm' : m < 40 := by simp only [dx, dy] at hm; omega
  refine ⟨S (vtxt (m + 1)), a, m + 1, by omega, by simp [dx, dy], ?_, ⟨_, vtxt_mem hm', rfl⟩⟩
  have hok := allN_lt freshOk m hm'
  let σ : Nat → PV := fun n => match n with | 0 => p.lp | 1 => I a | _ => I 0
  have hf := src_formed h
  have hσ : Fit σ := ⟨fun n => by
    match n with
    | 0 => exact hf.1
    | 1 => exact .inl ⟨_, rfl⟩
    | n + 2 => exact .inl ⟨_, rfl⟩, fun n => by
    match n with
    | 0 => exact hf.2
    | 1 => rfl
    | n + 2 => rfl⟩
  have hok : goesF ⟨tysT, noAsk⟩ fns68 (fun _ _ => none) 10000 e32 45 [.tup (.mp 67 :: Sc 1), NL, I 7, Bo true, I m] [] (S (vtxt (m + 1))) [.tup (.mp 67 :: Sc 1), NL, I 7, Bo true, I (m + 1)] = true := hok
  generalize vtxt (m + 1) = vt at hok ⊢
  have := (KnownS.sub hσ (P := Tryz.prog) (f := 32) (ty := 45) (cs := [.tup (.mp 67 :: Sc 1), NL, I 7, Bo true, I m]) (ds := []) (q := S vt) (cs' := [.tup (.mp 67 :: Sc 1), NL, I 7, Bo true, I (m + 1)])).1 (by
    letI := E.put σ hσ.form
    exact knownS_goes (T := ⟨tysT, noAsk⟩) tOk mixed fns68Ok (fun _ _ _ h => by cases h) e32ok hok)
  exact this
end
end Go.Ev.A

/- The text generator: what Expr answers. -/
namespace Go.Ev.A
open Go.Proofs
section
variable [E : Env]
variable {lp : PV}
def env0 : PV := .sl [[S [88], I 0], [S [88], I 0], [S [88], I 0], [S [88], I 0]] false
theorem env0_ok {hi : Nat} (h : 4 ≤ hi) : EnvOk hi env0 := ⟨_, rfl, by decide, h, fun e he => ⟨[88], 0, by simp at he; exact he, by simp [varTxts], by omega⟩⟩
theorem small_f (h : SrcL lp) (p0 : Pm) (hp : p0.lp = lp) : Spec p0 67 := by
  intro a m args ha hm
  have ha : args = [] := ha
  subst ha
  subst hp
  let p : Pm := ⟨p0.lp, 1, 0, m, 7, 0, fun _ => False, fun _ => True⟩
  obtain ⟨σ, H, s1, s2, s3, s4, s5⟩ := base_sat p (src_formed h) ⟨Nat.le_refl _, by show 1 ≤ 3; omega⟩ a 0 (by omega) env0 (env0_ok (by show 4 ≤ 7; omega))
  have F : Facts p (avl [14]) := ⟨fun _ => next_f h, (fun h => by cases h), (fun h => by cases h), fun f hf h => by
    simp only [owns, List.mem_cons, List.not_mem_nil, or_false] at hf
    rcases hf with rfl | rfl | rfl | rfl | rfl | rfl | rfl <;> cases h⟩
  obtain ⟨lf, τ, hl, H', hc, ho, g⟩ := walk (p := p) (L := 7) (fun f hf h => by
    simp only [owns, List.mem_cons, List.not_mem_nil, or_false] at hf
    rcases hf with rfl | rfl | rfl | rfl | rfl | rfl | rfl <;> cases h) (by show 0 ≤ 10000; omega) (by show 7 ≤ 7; omega) (by show 7 ≤ 7; omega) F w_small 50 ctx0 [] [] σ smallOk (H.more (by omega)) (fun e he => by cases he) (fun e he => by cases he)
  simp only [φS, Bool.and_eq_true] at hl
  obtain ⟨r1, r2, r3, r4⟩ := hl
  have hk := leaf_use H'.fit hc ho e67ok fns68Ok r1
  obtain ⟨_, a', a1⟩ := at_ok H' r4
  obtain r3 := Nat.eq_of_beq_eq_true r3
  have e1 : subL τ (Kc lf.a lf.m) = mkS p0.lp a' m := by
    simp only [Kc, subL, Ev.sub, H'.lst, r3, g 2 (by omega), s2, a1]; rfl
  have e2 : subL τ (Kc 1 2) = mkS p0.lp a m := by
    simp only [Kc, subL, Ev.sub, H'.lst, g 1 (by omega), g 2 (by omega), s1, s2]; rfl
  rw [e1, e2] at hk
  obtain ⟨t, ht, hq⟩ := List.mem_map.1 (txtIn_mem r2)
  rw [← hq, Ev.sub] at hk
  exact ⟨S t.1, a', m, Nat.le_refl _, by simp [dx, dy], hk, t, ht, rfl⟩
/-- a result of of -/
theorem of_f {hi : Nat} (hhi : hi ≤ 7) (env : PV) (s : Nat) (he : EnvOk hi env) (hs : s < 8) : ∃ ks : List (List Nat), ks.length < 8 ∧ (∀ k ∈ ks, k ∈ varTxts) ∧ Known Tryz.prog 65 [env, I s] (ofVal ks) := by
  let p : Pm := ⟨NL, 1, 0, 0, 7, 0, fun _ => False, fun _ => True⟩
  have he' : EnvOk p.hi env := by
    obtain ⟨es, h1, h2, h3, h4⟩ := he
    exact ⟨es, h1, h2, by show es.length ≤ 7; omega, h4⟩
  obtain ⟨σ, H, s1, s2, s3, s4, s5⟩ := base_sat p ⟨.inl ⟨_, rfl⟩, rfl⟩ ⟨Nat.le_refl _, by show 1 ≤ 3; omega⟩ 0 s hs env he'
  obtain ⟨es, rfl, h1, h2, h3⟩ := he'
  obtain ⟨τ0, H0, g0, g1⟩ := env_sat es H h3
  have F : Facts p (avl []) := ⟨(fun h => by cases h), (fun h => by cases h), (fun h => by cases h), fun f hf h => by
    simp only [owns, List.mem_cons, List.not_mem_nil, or_false] at hf
    rcases hf with rfl | rfl | rfl | rfl | rfl | rfl | rfl <;> cases h⟩
  have key : ∀ k w, es.length = k → k ≤ 7 → allL (φD k) (avl []) k w 50 (ctxE k) [] [] = true → ∃ ks : List (List Nat), ks.length < 8 ∧ (∀ k ∈ ks, k ∈ varTxts) ∧ Known Tryz.prog 65 [.sl es false, I s] (ofVal ks) := by
    intro k w hk hk7 hok
    rw [hk] at H0 g1
    obtain ⟨lf, τ, hl, H', hc, ho, g⟩ := walk (p := p) (L := k) (fun f hf h => by
      simp only [owns, List.mem_cons, List.not_mem_nil, or_false] at hf
      rcases hf with rfl | rfl | rfl | rfl | rfl | rfl | rfl <;> cases h) (by show 0 ≤ 10000; omega) (by show 7 ≤ 7; omega) hk7 F w 50 (ctxE k) [] [] τ0 hok (H0.more (by omega)) (fun e he => by cases he) (fun e he => by cases he)
    simp only [φD, Bool.and_eq_true] at hl
    obtain ⟨r1, r2⟩ := hl
    have hK := leaf_useD H'.fit hc ho e65ok fnsOk r1
    have low : ∀ (j a : Nat), a + 2 * j ≤ 50 → ∀ e ∈ envL a j, LowL 50 e := by
      intro j
      induction j with
      | zero => intro a h e he; cases he
      | succ j ih =>
        intro a h e he
        rcases List.mem_cons.1 he with rfl | he
        · exact .cons (Low.unk (by omega)) (.cons (Low.unk (by omega)) .nil)
        · exact ih (a + 2) (by omega) e he
    have e1 : subL τ [envP k, .unk 4] = [.sl es false, I s] := by
      have : Ev.sub τ (envP k) = Ev.sub τ0 (envP k) := Low.sl (low k 10 (by omega)) τ0 τ g
      have e0 : Ev.sub τ0 (envP k) = .sl es false := by rw [envP, Ev.sub, g1]
      rw [subL, subL, this, e0, Ev.sub, g 4 (by omega), g0 4 (by omega), s4]
      rfl
    rw [e1] at hK
    split at r2
    · rename_i hq
      rw [hq, Ev.sub] at hK
      exact ⟨[], by simp, (fun k hk => by cases hk), hK⟩
    · cases r2
    · rename_i es' hne hq
      simp only [Bool.and_eq_true] at r2
      obtain ⟨r2, r3⟩ := r2
      have hv : ∀ (l : List (List PV)), (l.all fun e => match e with
          | [.unk k] => match ty lf.Γ k with
            | some .var => true
            | _ => false
          | _ => false) = true → ∃ ks : List (List Nat), ks.length = l.length ∧ (∀ k ∈ ks, k ∈ varTxts) ∧ subE τ l = ks.map fun t => [S t] := by
        intro l
        induction l with
        | nil => intro _; exact ⟨[], rfl, (fun k hk => by cases hk), rfl⟩
        | cons e l ih =>
          intro h
          rw [List.all_cons, Bool.and_eq_true] at h
          obtain ⟨ks, k1, k2, k3⟩ := ih h.2
          have h := h.1
          split at h
          · split at h
            · rename_i hk
              obtain ⟨_, ⟨t, t1, t2⟩, _⟩ := H'.ok _ _ hk
              refine ⟨t :: ks, by simp [k1], fun k hk => ?_, by rw [subE, k3, subL, Ev.sub, t2]; rfl⟩
              rcases List.mem_cons.1 hk with rfl | hk
              · exact t1
              · exact k2 k hk
            · cases h
          · cases h
      obtain ⟨ks, k1, k2, k3⟩ := hv es' r3
      rw [hq, Ev.sub, k3] at hK
      have : es'.length ≤ 7 := Nat.le_of_ble_eq_true r2
      refine ⟨ks, by omega, k2, ?_⟩
      cases ks with
      | nil =>
        exfalso
        cases es' with
        | nil => exact hne rfl
        | cons _ _ => simp at k1
      | cons k r => exact hK
    · cases r2
  have : es.length ≤ 7 := h2
  rcases (by omega : es.length = 4 ∨ es.length = 5 ∨ es.length = 6 ∨ es.length = 7) with h | h | h | h
  · exact key 4 _ h (by omega) of4Ok
  · exact key 5 _ h (by omega) of5Ok
  · exact key 6 _ h (by omega) of6Ok
  · exact key 7 _ h (by omega) of7Ok
end
end Go.Ev.A

/- The text generator: what Expr answers, at every depth. -/
namespace Go.Ev.A
open Go.Proofs
/-- the most fresh variables, and the longest text, of an expression of a depth -/
def NN : Nat → Nat
  | 0 => 1
  | d + 1 => 1 + 3 * NN d
def BB : Nat → Nat
  | 0 => 40
  | d + 1 => 100 + 3 * BB d
def Txt (d : Nat) (l : List UInt8) : Prop := Wr (3 + 4 * d) l ∧ l.length ≤ BB d
section
variable [E : Env]
def LeafSp (lp : PV) : Prop := ∀ (a m s : Nat) (env : PV), s < 8 → EnvOk 7 env → m + 1 ≤ 40 → ∃ l a' m', m ≤ m' ∧ m' ≤ m + 1 ∧ KnownS Tryz.prog 29 45 (mkS lp a m) [I s, env] (Str l) (mkS lp a' m') ∧ Txt 0 l
def ExprSp (lp : PV) (d : Nat) : Prop := ∀ (a m s : Nat) (env : PV), s < 8 → EnvOk (7 - d) env → m + NN d ≤ 40 → ∃ l a' m', m ≤ m' ∧ m' ≤ m + NN d ∧ KnownS Tryz.prog 13 45 (mkS lp a m) [I s, I d, env] (Str l) (mkS lp a' m') ∧ Txt d l
variable {lp : PV}
theorem own_split {P : Nat → Prop} {l : List Nat} (h : ∀ f ∈ owns, avl l f = true → f ∈ l) (g : ∀ f ∈ l, P f) : ∀ f ∈ owns, avl l f = true → P f := fun f hf ha => g f (h f hf ha)
theorem avl_mem {l : List Nat} {f : Nat} (h : avl l f = true) : f ∈ l := by
  unfold avl at h
  obtain ⟨x, hx, hb⟩ := List.any_eq_true.1 h
  rw [Nat.eq_of_beq_eq_true hb]; exact hx
theorem kc_sub {p : Pm} {n : Nat} {Γ : Ctx} {σ : Nat → PV} (H : Sat p n Γ σ) {a : Nat} (s1 : σ 1 = I a) (s2 : σ 2 = I p.m0) : subL σ (Kc 1 2) = mkS p.lp a p.m0 := by
  simp only [Kc, subL, Ev.sub, H.lst, s1, s2]; rfl
theorem leaf_f (h : SrcL lp) : LeafSp lp := by
  intro a m s env hs he hm
  let p : Pm := ⟨lp, 1, 0, m, 7, 0, fun _ => False, fun l => Txt 0 l⟩
  obtain ⟨σ, H, s1, s2, s3, s4, s5⟩ := base_sat p (src_formed h) ⟨Nat.le_refl _, by show 1 ≤ 3; omega⟩ a s hs env he
  have F : Facts p (avl [14, 65, 66, 67, 32]) := ⟨fun _ => next_f h, fun _ => atom_f h, fun _ => of_f (Nat.le_refl 7), fun f hf ha => by
    have := avl_mem ha
    simp only [owns, List.mem_cons, List.not_mem_nil, or_false] at hf this
    rcases this with rfl | rfl | rfl | rfl | rfl
    · simp at hf
    · simp at hf
    · simp at hf
    · exact small_f h p rfl
    · exact fresh_f h p rfl⟩
  obtain ⟨l, a', m', k1, k2, k3, k4⟩ := use_text (p := p) (base := 0) leafOk e29ok (fun _ _ _ => by show m + 1 + 3 * 0 ≤ 40; omega) (by show 0 ≤ 10000; omega) (by show 7 ≤ 7; omega) (by show 7 ≤ 7; omega) F (H.more (by omega)) (by omega)
    (.cons (Low.unk (by omega)) (.cons (Low.unk (by omega)) .nil)) (fun _ h => h.elim)
  rw [kc_sub H s1 s2] at k1
  simp only [subL, Ev.sub, s4, s5] at k1
  refine ⟨l, a', m', k2, by have : m' ≤ m + 1 + 0 * 0 := k3; omega, k1, ?_⟩
  rcases k4 with k4 | ⟨k4, k5⟩
  · exact k4
  · exact ⟨by rw [Nat.zero_add] at k4; exact k4, by have : l.length ≤ 40 + 0 * 0 := k5; show l.length ≤ 40; omega⟩
theorem Txt.mono {d e : Nat} (h : d ≤ e) {l : List UInt8} (g : Txt d l) : Txt e l := by
  have hb : ∀ k, BB d ≤ BB (d + k) := by
    intro k
    induction k with
    | zero => exact Nat.le_refl _
    | succ k ih => rw [← Nat.add_assoc, BB]; omega
  have := hb (e - d)
  rw [show d + (e - d) = e by omega] at this
  exact ⟨g.1.mono (by omega), Nat.le_trans g.2 this⟩
theorem expr0_f (h : SrcL lp) : ExprSp lp 0 := by
  intro a m s env hs he hm
  have hm : m + 1 ≤ 40 := hm
  let p : Pm := ⟨lp, 1, 0, m, 7, 0, fun _ => False, fun l => Txt 0 l⟩
  obtain ⟨σ, H, s1, s2, s3, s4, s5⟩ := base_sat p (src_formed h) ⟨Nat.le_refl _, by show 1 ≤ 3; omega⟩ a s hs env he
  have F : Facts p (avl [14, 29]) := ⟨fun _ => next_f h, (fun h => by cases h), (fun h => by cases h), fun f hf ha => by
    have := avl_mem ha
    simp only [owns, List.mem_cons, List.not_mem_nil, or_false] at hf this
    rcases this with rfl | rfl
    · simp at hf
    · intro a m args hA hm
      obtain ⟨s, e, rfl, h1, h2⟩ := hA
      obtain ⟨l, a', m', g1, g2, g3, g4⟩ := leaf_f h a m s e h1 h2 (by simp only [dx, dy] at hm; omega)
      exact ⟨Str l, a', m', g1, by simp only [dx, dy]; omega, g3, l, rfl, g4⟩⟩
  obtain ⟨l, a', m', k1, k2, k3, k4⟩ := use_text (p := p) (base := 0) expr0Ok e13ok (fun _ _ _ => by show m + 1 + 3 * 0 ≤ 40; omega) (by show 0 ≤ 10000; omega) (by show 7 ≤ 7; omega) (by show 7 ≤ 7; omega) F (H.more (by omega)) (by omega)
    (.cons (Low.unk (by omega)) (.cons Low.v (.cons (Low.unk (by omega)) .nil))) (fun _ h => h.elim)
  rw [kc_sub H s1 s2] at k1
  simp only [subL, Ev.sub, s4, s5] at k1
  refine ⟨l, a', m', k2, by have : m' ≤ m + 1 + 0 * 0 := k3; show m' ≤ m + 1; omega, k1, ?_⟩
  rcases k4 with k4 | ⟨k4, k5⟩
  · exact k4
  · exact ⟨by rw [Nat.zero_add] at k4; exact k4, by have : l.length ≤ 40 + 0 * 0 := k5; show l.length ≤ 40; omega⟩
theorem low_env : ∀ (j a n : Nat), a + 2 * j ≤ n → ∀ e ∈ envL a j, LowL n e
  | 0, a, n, h, e, he => by cases he
  | j + 1, a, n, h, e, he => by
    rcases List.mem_cons.1 he with rfl | he
    · exact .cons (Low.unk (by omega)) (.cons (Low.unk (by omega)) .nil)
    · exact low_env j (a + 2) n (by omega) e he
/-- the three trees of a function, at a depth -/
theorem level {d f : Nat} {fi : FI} {w4 w5 w6 : Wk} (hd : d < 3) (hfi : ∀ [Env], FIOk Tryz.prog f fi) (av : List Nat) (o4 : okBr av 4 fi w4 = true) (o5 : okBr av 5 fi w5 = true) (o6 : okBr av 6 fi w6 = true)
    (h : SrcL lp) (hE : ExprSp lp d)
    (hS : ∀ g ∈ [31, 33, 34], g ∈ av → ∀ (a m s : Nat) (env : PV), s < 8 → EnvOk (6 - d) env → m + NN (d + 1) ≤ 40 → ∃ l a' m', m ≤ m' ∧ m' ≤ m + NN (d + 1) ∧ KnownS Tryz.prog g 45 (mkS lp a m) [I s, I (d + 1), env] (Str l) (mkS lp a' m') ∧ Txt (d + 1) l)
    (hav2 : ∀ g ∈ av, g ∈ [14, 13, 29, 32, 67, 31, 33, 34]) :
    ∀ (a m s : Nat) (env : PV), s < 8 → EnvOk (6 - d) env → m + NN (d + 1) ≤ 40 → ∃ l a' m', m ≤ m' ∧ m' ≤ m + NN (d + 1) ∧ KnownS Tryz.prog f 45 (mkS lp a m) [I s, I (d + 1), env] (Str l) (mkS lp a' m') ∧ Txt (d + 1) l := by
  intro a m s env hs he hm
  have hB : BB d ≤ 10000 := by
    rcases (by omega : d = 0 ∨ d = 1 ∨ d = 2) with rfl | rfl | rfl <;> decide
  let p : Pm := ⟨lp, d + 1, NN d, m, 6 - d, BB d, fun l => Txt d l, fun l => Txt (d + 1) l⟩
  have hm' : m + (1 + 3 * NN d) ≤ 40 := hm
  obtain ⟨σ, H, s1, s2, s3, s4, s5⟩ := base_sat p (src_formed h) ⟨by show 1 ≤ d + 1; omega, by show d + 1 ≤ 3; omega⟩ a s hs env he
  obtain ⟨es, rfl, e1, e2, e3⟩ := he
  obtain ⟨τ, H0, g0, g1⟩ := env_sat es H e3
  have F : Facts p (avl av) := ⟨fun _ => next_f h, fun _ => atom_f h, fun _ => of_f (by show 6 - d ≤ 7; omega), fun f hf ha => by
    have hmem := avl_mem ha
    have := hav2 f hmem
    simp only [owns, List.mem_cons, List.not_mem_nil, or_false] at hf this
    have sp3 : f ∈ [31, 33, 34] → ∀ (q : Nat × Nat), (dx f, dy f) = q → q = (1, 3) → Spec p f := by
      intro hf3 q hq1 hq2
      subst hq2
      have d1 : dx f = 1 := congrArg Prod.fst hq1
      have d2 : dy f = 3 := congrArg Prod.snd hq1
      intro a m args hA hm
      have hA : ∃ s e, args = [I s, I (d + 1), e] ∧ s < 8 ∧ EnvOk (6 - d) e := by
        simp only [List.mem_cons, List.not_mem_nil, or_false] at hf3
        rcases hf3 with rfl | rfl | rfl <;> exact hA
      obtain ⟨s, e, rfl, h1, h2⟩ := hA
      rw [d1, d2] at hm ⊢
      have hm : m + 1 + 3 * NN d ≤ 40 := hm
      obtain ⟨l, a', m', k1, k2, k3, k4⟩ := hS f hf3 hmem a m s e h1 h2 (by show m + (1 + 3 * NN d) ≤ 40; omega)
      have k2 : m' ≤ m + (1 + 3 * NN d) := k2
      refine ⟨Str l, a', m', k1, (by show m' ≤ m + 1 + 3 * NN d; omega), k3, ?_⟩
      simp only [List.mem_cons, List.not_mem_nil, or_false] at hf3
      rcases hf3 with rfl | rfl | rfl <;> exact ⟨l, rfl, k4⟩
    rcases this with rfl | rfl | rfl | rfl | rfl | rfl | rfl | rfl
    · simp at hf
    · intro a m args hA hm
      obtain ⟨s, e, rfl, h1, h2⟩ := hA
      have h2 : EnvOk (7 - d) e := by have h2 : EnvOk (6 - d + 1) e := h2; rw [show 6 - d + 1 = 7 - d by omega] at h2; exact h2
      obtain ⟨l, a', m', k1, k2, k3, k4⟩ := hE a m s e h1 h2 (by have : m + 0 + 1 * NN d ≤ 40 := hm; omega)
      exact ⟨Str l, a', m', k1, (by show m' ≤ m + 0 + 1 * NN d; omega), k3, l, rfl, k4, k4.2⟩
    · intro a m args hA hm
      obtain ⟨s, e, rfl, h1, es, h2, h3, h4, h5⟩ := hA
      obtain ⟨l, a', m', g1, g2, g3, g4⟩ := leaf_f h a m s e h1 ⟨es, h2, h3, by have : es.length ≤ 6 - d := h4; omega, h5⟩ (by simp only [dx, dy] at hm; omega)
      exact ⟨Str l, a', m', g1, by simp only [dx, dy]; omega, g3, l, rfl, g4.mono (by omega)⟩
    · exact fresh_f h p rfl
    · exact small_f h p rfl
    · exact sp3 (by simp) _ rfl rfl
    · exact sp3 (by simp) _ rfl rfl
    · exact sp3 (by simp) _ rfl rfl⟩
  have key : ∀ k w, es.length = k → okBr av k fi w = true → ∃ l a' m', m ≤ m' ∧ m' ≤ m + NN (d + 1) ∧ KnownS Tryz.prog f 45 (mkS lp a m) [I s, I (d + 1), .sl es false] (Str l) (mkS lp a' m') ∧ Txt (d + 1) l := by
    intro k w hk hok
    have hk6 : k ≤ 6 - d := by have : es.length ≤ 6 - d := e2; omega
    rw [hk] at H0 g1
    obtain ⟨l, a', m', k1, k2, k3, k4⟩ := use_text (p := p) (base := 3 + 4 * d) hok hfi (fun _ _ _ => by show m + 1 + 3 * NN d ≤ 40; omega) hB (by show 6 - d ≤ 7; omega) hk6 F (H0.more (m := 50) (by omega)) (by omega)
      (.cons (Low.unk (by omega)) (.cons (Low.unk (by omega)) (.cons (Low.sl (low_env k 10 50 (by omega))) .nil))) (fun l h => h.1)
    rw [kc_sub H0 (by rw [g0 1 (by omega)]; exact s1) (by rw [g0 2 (by omega)]; exact s2)] at k1
    have ev : subL τ [.unk 4, .unk 3, envP k] = [I s, I (d + 1), .sl es false] := by
      have e0 : Ev.sub τ (envP k) = .sl es false := by rw [envP, Ev.sub, g1]
      rw [subL, subL, subL, e0, Ev.sub, Ev.sub, g0 4 (by omega), g0 3 (by omega), s4, s3]
      rfl
    rw [ev] at k1
    refine ⟨l, a', m', k2, by have : m' ≤ m + 1 + 3 * NN d := k3; show m' ≤ m + (1 + 3 * NN d); omega, k1, ?_⟩
    rcases k4 with k4 | ⟨k4, k5⟩
    · exact k4
    · exact ⟨by rw [show 3 + 4 * (d + 1) = 3 + 4 * d + 4 by omega]; exact k4, k5⟩
  have e2' : es.length ≤ 6 - d := e2
  rcases (by omega : es.length = 4 ∨ es.length = 5 ∨ es.length = 6) with h | h | h
  · exact key 4 w4 h o4
  · exact key 5 w5 h o5
  · exact key 6 w6 h o6
theorem expr_f (h : SrcL lp) : ∀ d, d ≤ 3 → ExprSp lp d
  | 0, _ => expr0_f h
  | d + 1, hd => by
    have hE := expr_f h d (by omega)
    have hd3 : d < 3 := by omega
    have no : ∀ g ∈ [31, 33, 34], g ∈ av1 → False := by decide
    have b31 := level hd3 e31ok av1 branchOk4 branchOk5 branchOk6 h hE (fun g h1 h2 => (no g h1 h2).elim) (by decide)
    have b33 := level hd3 e33ok av1 processOk4 processOk5 processOk6 h hE (fun g h1 h2 => (no g h1 h2).elim) (by decide)
    have b34 := level hd3 e34ok av1 specialOk4 specialOk5 specialOk6 h hE (fun g h1 h2 => (no g h1 h2).elim) (by decide)
    have b13 := level hd3 e13ok av2 exprOk4 exprOk5 exprOk6 h hE (fun g h1 h2 => by
      simp only [List.mem_cons, List.not_mem_nil, or_false] at h1
      rcases h1 with rfl | rfl | rfl
      · exact b31
      · exact b33
      · exact b34) (by decide)
    intro a m s env hs he hm
    rw [show 7 - (d + 1) = 6 - d by omega] at he
    exact b13 a m s env hs he hm
end
end Go.Ev.A

/- What the regions come to. -/
namespace Go.Ev
open Go.Proofs
section
variable {R : Type}
/-! function 4 -/
noncomputable def c4 : Code := codeOf Tryz.f4
noncomputable def r4_0 : Code := regAt 0 c4
noncomputable def r4_1 : Code := regAt 1 c4
noncomputable def r4_2 : Code := regAt 2 c4
noncomputable def r4_3 : Code := regAt 3 c4
noncomputable def r4_4 : Code := regAt 4 c4
theorem c4_eq : c4 = (.seq r4_0 (.seq r4_1 (.seq r4_2 (.seq r4_3 (.seq r4_4 .ret))))) := by kernel_rfl
theorem b4 (rc : RC R) (x0 : PV) (hp : Hp) (k : PV → Hp → Option R) : bodyF tys e4 rc [x0] hp k = rc e4 c4 ⟨[(0, x0)], hp⟩ (endK tys e4.fn k) := by kernel_rfl
theorem z4a (x2 : PV) (hp : Hp) : resOf tys e4.fn ⟨[(2, x2)], hp⟩ = oneR (consO (loadAt tys hp 30 x2) (some [])) := by kernel_rfl
theorem r4_0a (call : CallK R) (rc : RC R) (x0 : PV) (hp : Hp) (k : Ex → St → Option R) : evC tys e4 r4_0 call rc ⟨[(0, x0)], hp⟩ k =
  bP (primAlloc tys hp 30) fun y0 g0 =>
  k .normal ⟨[(0, x0), (2, y0)], g0⟩ := by kernel_rfl
theorem r4_1a (call : CallK R) (rc : RC R) (x0 x2 : PV) (hp : Hp) (k : Ex → St → Option R) : evC tys e4 r4_1 call rc ⟨[(0, x0), (2, x2)], hp⟩ k =
  call 11 [x0] hp fun y1 g1 =>
  k .normal ⟨[(2, x2), (3, y1)], g1⟩ := by kernel_rfl
theorem r4_2a (call : CallK R) (rc : RC R) (x2 x3 : PV) (hp : Hp) (k : Ex → St → Option R) : evC tys e4 r4_2 call rc ⟨[(2, x2), (3, x3)], hp⟩ k =
  bP (primNil hp (some x3)) fun y2 g2 =>
  bP (primFieldAddr tys g2 45 2 (some y2)) fun y3 g3 =>
  bP (primStore tys g3 3 (some y3) (some (i 7))) fun y4 g4 =>
  bP (primNil g4 (some x3)) fun y5 g5 =>
  bP (primFieldAddr tys g5 45 3 (some y5)) fun y6 g6 =>
  bP (primStore tys g6 4 (some y6) (some (.v (.bool true)))) fun y7 g7 =>
  k .normal ⟨[(2, x2), (3, x3)], g7⟩ := by kernel_rfl
theorem r4_3a (call : CallK R) (rc : RC R) (x2 x3 : PV) (hp : Hp) (k : Ex → St → Option R) : evC tys e4 r4_3 call rc ⟨[(2, x2), (3, x3)], hp⟩ k =
  bP (primNil hp (some x3)) fun y2 g2 =>
  bP (primFieldAddr tys g2 45 0 (some y2)) fun y3 g3 =>
  bP (primLoad tys g3 42 (some y3)) fun y4 g4 =>
  call 14 [y4, (i 8)] g4 fun y5 g5 =>
  call 15 [] g5 fun y6 g6 =>
  call 13 [x3, y5, (i 3), y6] g6 fun y7 g7 =>
  call 12 [y7] g7 fun y8 g8 =>
  bP (primExtract g8 0 (some y8)) fun y10 g10 =>
  bP (primExtract g10 1 (some y8)) fun y11 g11 =>
  bP (primExtract g11 2 (some y8)) fun y12 g12 =>
  bP (primAlloc tys g12 30) fun y13 g13 =>
  bP (primStore tys g13 30 (some y13) (some y10)) fun y14 g14 =>
  k .normal ⟨[(2, x2), (4, y13)], g14⟩ := by kernel_rfl
theorem r4_4a (call : CallK R) (rc : RC R) (x2 x4 : PV) (hp : Hp) (k : Ex → St → Option R) : evC tys e4 r4_4 call rc ⟨[(2, x2), (4, x4)], hp⟩ k =
  bP (primLoad tys hp 30 (some x4)) fun y0 g0 =>
  bP (primStore tys g0 30 (some x2) (some y0)) fun y1 g1 =>
  k .normal ⟨[(2, x2)], g1⟩ := by kernel_rfl
/-! function 11 -/
noncomputable def c11 : Code := codeOf Tryz.f11
noncomputable def r11_0 : Code := regAt 0 c11
noncomputable def r11_1 : Code := regAt 1 c11
theorem c11_eq : c11 = (.seq r11_0 (.seq r11_1 .ret)) := by kernel_rfl
theorem b11 (rc : RC R) (x0 : PV) (hp : Hp) (k : PV → Hp → Option R) : bodyF tys e11 rc [x0] hp k = rc e11 c11 ⟨[(0, x0)], hp⟩ (endK tys e11.fn k) := by kernel_rfl
theorem z11a (x2 : PV) (hp : Hp) : resOf tys e11.fn ⟨[(2, x2)], hp⟩ = oneR (consO (some x2) (some [])) := by kernel_rfl
theorem r11_0a (call : CallK R) (rc : RC R) (x0 : PV) (hp : Hp) (k : Ex → St → Option R) : evC tys e11 r11_0 call rc ⟨[(0, x0)], hp⟩ k =
  k .normal ⟨[(0, x0)], hp⟩ := by kernel_rfl
theorem r11_1a (call : CallK R) (rc : RC R) (x0 : PV) (hp : Hp) (k : Ex → St → Option R) : evC tys e11 r11_1 call rc ⟨[(0, x0)], hp⟩ k =
  bP (primLen tys hp 22 (some x0)) fun y2 g2 =>
  bP (primMin g2 false (some [y2, (i 50)])) fun y3 g3 =>
  bP (primSlice tys g3 22 (some x0) (some none) (some (some y3)) (some none)) fun y4 g4 =>
  bP (primBuild tys g4 67 (some [(0, y4)])) fun y5 g5 =>
  bP (primBox tys g5 67 (some y5)) fun y6 g6 =>
  bP (primBuild tys g6 45 (some [(0, y6)])) fun y7 g7 =>
  bP (primBox tys g7 45 (some y7)) fun y8 g8 =>
  k .normal ⟨[(2, y8)], g8⟩ := by kernel_rfl
/-! function 15 -/
noncomputable def c15 : Code := codeOf Tryz.f15
noncomputable def r15_0 : Code := regAt 0 c15
noncomputable def r15_1 : Code := regAt 1 c15
theorem c15_eq : c15 = (.seq r15_0 (.seq r15_1 .ret)) := by kernel_rfl
theorem b15 (rc : RC R) (hp : Hp) (k : PV → Hp → Option R) : bodyF tys e15 rc [] hp k = rc e15 c15 ⟨[], hp⟩ (endK tys e15.fn k) := by kernel_rfl
theorem z15a (x0 : PV) (hp : Hp) : resOf tys e15.fn ⟨[(0, x0)], hp⟩ = oneR (consO (some x0) (some [])) := by kernel_rfl
theorem r15_0a (call : CallK R) (rc : RC R) (hp : Hp) (k : Ex → St → Option R) : evC tys e15 r15_0 call rc ⟨[], hp⟩ k =
  k .normal ⟨[], hp⟩ := by kernel_rfl
theorem r15_1a (call : CallK R) (rc : RC R) (hp : Hp) (k : Ex → St → Option R) : evC tys e15 r15_1 call rc ⟨[], hp⟩ k =
  bP (primBuild tys hp 80 (some [(0, (sb [88])), (1, (i 0))])) fun y0 g0 =>
  bP (primBuild tys g0 80 (some [(0, (sb [89])), (1, (i 6))])) fun y1 g1 =>
  bP (primBuild tys g1 80 (some [(0, (sb [90])), (1, (i 3))])) fun y2 g2 =>
  bP (primBuild tys g2 80 (some [(0, (sb [70])), (1, (i 5))])) fun y3 g3 =>
  bP (primBuildSlice tys g3 51 4 (some [(0, y0), (1, y1), (2, y2), (3, y3)])) fun y4 g4 =>
  k .normal ⟨[(0, y4)], g4⟩ := by kernel_rfl
end
end Go.Ev

/- made: an expression out of a list of numbers. -/
namespace Go.Ev
open Go.Proofs
noncomputable def fns11 : Fns := (.nd (.nd (.nd .lf none (.nd .lf (some e11) .lf)) none .lf) none .lf)
theorem fns11Ok [Env] : FTOk Tryz.prog fns11 := .of ⟨trivial, ⟨trivial, ⟨trivial, trivial, ⟨e11ok, trivial, trivial⟩⟩, trivial⟩, trivial⟩
noncomputable def iff (c : Prop) (x y : Option PV) : Option PV := @ite _ c (Classical.propDecidable c) x y
theorem iff_t {c : Prop} (h : c) (x y : Option PV) : iff c x y = x := by unfold iff; exact if_pos h
theorem iff_f {c : Prop} (h : ¬ c) (x y : Option PV) : iff c x y = y := by unfold iff; exact if_neg h
section
variable {R : Type}
theorem call_state {T : Types} {FT : Fns} {O : Orc} {rc : RC R} {f id : Nat} {l ds : List PV} {hp : Hp} {b : Blk} {q : PV} {cs : List PV} {k : PV → Hp → Option R} (hf : FT.get f = none) (hl : freezeL deepN hp l = some (ds, hp)) (hg : hp.get id = some b) (hk : stOk b = true)
    (ho : O f (stKey b.ty b.cells ds) = some (.tup [q, .tup cs])) (hlen : Nat.beq cs.length b.cells.length = true) (hc : stCells cs = true) : callF T FT O rc f (.ptr id 0 :: l) hp k = k q (hp.put id ⟨cs, b.sz, false, 0, b.ty⟩) := by
  unfold callF
  rw [hf]
  simp only [callA, callS, hl, hg, hk, ho, stAns, hlen, hc, Bool.and_self]
theorem call_state2 {T : Types} {FT : Fns} {O : Orc} {rc : RC R} {f id j : Nat} {l ds : List PV} {hp : Hp} {b b1 : Blk} {r r' cs1 : List PV} {q : PV} {k : PV → Hp → Option R} (hf : FT.get f = none) (hl : freezeL deepN hp l = some (ds, hp)) (hg : hp.get id = some b) (hb : b.cells = .ptr j 0 :: r) (hk : stOk b = false)
    (hg1 : hp.get j = some b1) (hw : (!Nat.beq j id && (wOk b r && stOk b1)) = true) (ho : O f (stKey b.ty (.tup (.mp b1.ty :: b1.cells) :: r) ds) = some (.tup [q, .tup (.tup (.mp b1.ty :: cs1) :: r')]))
    (hlen : (Nat.beq cs1.length b1.cells.length && (Nat.beq (r'.length + 1) b.cells.length && (stCells cs1 && stCells r'))) = true) :
    callF T FT O rc f (.ptr id 0 :: l) hp k = k q ((hp.put id ⟨.ptr j 0 :: r', b.sz, false, 0, b.ty⟩).put j ⟨cs1, b1.sz, false, 0, b1.ty⟩) := by
  unfold callF
  rw [hf]
  simp only [callA, callS, hl, hg, hk, hb, headPtr, callW, hg1, hw, ho, wAns, Nat.beq_refl, Bool.true_and]
  rw [hb] at hlen
  rw [hlen]
end
namespace A
/-- the numbers, at most fifty -/
theorem cut_list {hp : Hp} {lp : PV} {zs : List Int} (h : IsL lp zs) : ∃ lp' m, primLen tys hp 22 (some lp) = some (I zs.length, hp) ∧ primMin hp false (some [I zs.length, I 50]) = some (I m, hp) ∧ primSlice tys hp 22 (some lp) (some none) (some (some (I m))) (some none) = some (lp', hp) ∧ SrcL lp' := by
  have hmin : ∀ n : Nat, ∃ m, primMin hp false (some [I n, I 50]) = some (I m, hp) ∧ m ≤ 50 ∧ m ≤ n := by
    intro n
    show ∃ m, ret1 hp (some (PV.v (.int .i64 (match Nat.ble n 50 with | true => .ofNat n | false => .ofNat 50)))) = _ ∧ _
    cases hn : Nat.ble n 50 with
    | true => exact ⟨n, rfl, Nat.le_of_ble_eq_true hn, Nat.le_refl _⟩
    | false =>
      refine ⟨50, rfl, Nat.le_refl _, ?_⟩
      have : ¬ n ≤ 50 := fun h => by rw [Nat.ble_eq_true_of_le h] at hn; cases hn
      omega
  obtain ⟨m, h1, h2, h3⟩ := hmin zs.length
  rcases h with ⟨rfl, rfl⟩ | ⟨ex, rfl⟩
  · have hm : m = 0 := by simpa using h3
    subst hm
    exact ⟨nl, 0, rfl, h1, rfl, [], .inl ⟨rfl, rfl⟩, by simp⟩
  · refine ⟨.sl ((zs.map fun z => [num z]).take m) (ex && Nat.beq m (zs.map fun z => [num z]).length), m, ?_, h1, ?_, zs.take m, .inr ⟨_, by rw [List.map_take]⟩, by rw [List.length_take]; omega⟩
    · show some (I (zs.map fun z => [num z]).length, hp) = _
      rw [List.length_map]
    · have hfit : slFits 1 (zs.map fun z => [num z]) = true := by
        cases zs <;> rfl
      show ret1 hp (match slFits 1 (zs.map fun z => [num z]) with | false => none | true => sliceSl (zs.map fun z => [num z]) ex none (some (I m)) none) = _
      rw [hfit]
      simp only [sliceSl, bound, List.length_map, Nat.ble_eq_true_of_le h3, List.drop_zero]
      rfl
def env4 : PV := .sl [[S [88], I 0], [S [89], I 6], [S [90], I 3], [S [70], I 5]] false
theorem env4_ok : EnvOk 4 env4 := ⟨_, rfl, by decide, by decide, fun e he => by
  simp only [List.mem_cons, List.not_mem_nil, or_false] at he
  rcases he with rfl | rfl | rfl | rfl
  · exact ⟨[88], 0, rfl, by simp [varTxts], by omega⟩
  · exact ⟨[89], 6, rfl, by simp [varTxts], by omega⟩
  · exact ⟨[90], 3, rfl, by simp [varTxts], by omega⟩
  · exact ⟨[70], 5, rfl, by simp [varTxts], by omega⟩⟩
noncomputable def okNames : Bool := goesD tys .lf (fun _ _ => none) 100 e15 [] env4
theorem namesOk : okNames = true := by kernel_rfl
theorem names_known [Env] : Known Tryz.prog 15 [] env4 := known_goes (T := tys) tOk mixed lf0 orc0 e15ok namesOk
/-- what is asked -/
noncomputable def orcM (lp : PV) (s a a' m' : Nat) (t : List UInt8) (X : List PV) : Orc := fun f ds => match f with
  | 14 => iff (ds = .top :: .mp 67 :: .tup [lp, I 0] :: [I 8]) (some (.tup [I s, .tup [lp, I a]])) none
  | 15 => iff (ds = []) (some env4) none
  | 13 => iff (ds = .top :: .mp 45 :: .tup (mkS lp a 0) :: [I s, I 3, env4]) (some (.tup [Str t, .tup (mkS lp a' m')])) none
  | 12 => iff (ds = [Str t]) (some (.tup [.agg X, I 0, I 0])) none
  | _ => none
theorem iff_some {c : Prop} {x : Option PV} {q : PV} (h : iff c x none = some q) : c ∧ x = some q := by
  by_cases hc : c
  · rw [iff_t hc] at h; exact ⟨hc, h⟩
  · rw [iff_f hc] at h; cases h
theorem orcM_ok [Env] {lp : PV} {s a a' m' : Nat} {t : List UInt8} {X : List PV} (h14 : KnownS Tryz.prog 14 67 [lp, I 0] [I 8] (I s) [lp, I a]) (h13 : KnownS Tryz.prog 13 45 (mkS lp a 0) [I s, I 3, env4] (Str t) (mkS lp a' m')) (h12 : Known Tryz.prog 12 [Str t] (.tup [.agg X, I 0, I 0])) : OrcOk Tryz.prog (orcM lp s a a' m' t X) := by
  intro f ds q h
  unfold orcM at h
  split at h
  · obtain ⟨e, h2⟩ := iff_some h
    subst e
    cases h2
    exact ⟨_, _, rfl, h14⟩
  · obtain ⟨e, h2⟩ := iff_some h
    subst e
    cases h2
    exact names_known
  · obtain ⟨e, h2⟩ := iff_some h
    subst e
    cases h2
    exact ⟨_, _, rfl, h13⟩
  · obtain ⟨e, h2⟩ := iff_some h
    subst e
    cases h2
    exact h12
  · cases h
end A
end Go.Ev

/- made: the walk. -/
namespace Go.Ev
open Go.Proofs
open A (orcM mkS Str env4)
variable {R : Type}
def z30 : List PV := y30.zero.map .v
theorem alloc30 (hp : Hp) : primAlloc tys hp 30 = some (.ptr hp.next 0, hp.new ⟨z30, 10, false, 0, 30⟩) := _root_.id rfl
theorem lst10 {v : List PV} (h : v.length = 10) : ∃ c0 c1 c2 c3 c4 c5 c6 c7 c8 c9, v = [c0, c1, c2, c3, c4, c5, c6, c7, c8, c9] := by
  rcases v with _ | ⟨c0, _ | ⟨c1, _ | ⟨c2, _ | ⟨c3, _ | ⟨c4, _ | ⟨c5, _ | ⟨c6, _ | ⟨c7, _ | ⟨c8, _ | ⟨c9, _ | ⟨c10, r⟩⟩⟩⟩⟩⟩⟩⟩⟩⟩⟩ <;> simp at h
  exact ⟨_, _, _, _, _, _, _, _, _, _, rfl⟩
theorem store30 {hp : Hp} {a : Nat} {v : List PV} (hv : v.length = 10) {c : List PV} (hc : c.length = 10) (h : hp.get a = some ⟨c, 10, false, 0, 30⟩) : primStore tys hp 30 (some (.ptr a 0)) (some (.agg v)) = some (.un, hp.put a ⟨v, 10, false, 0, 30⟩) := by
  obtain ⟨x0, x1, x2, x3, x4, x5, x6, x7, x8, x9, rfl⟩ := lst10 hv
  obtain ⟨c0, c1, c2, c3, c4, c5, c6, c7, c8, c9, rfl⟩ := lst10 hc
  show stored (match hp.get a with | none => none | some b => match sizeT tys 30 with | none => none | some sz => match pvCells (.agg [x0, x1, x2, x3, x4, x5, x6, x7, x8, x9]) with | none => none | some xs => storeIn hp a 0 b xs sz) = _
  rw [h]
  rfl
theorem loadAt30 {hp : Hp} {a : Nat} {v : List PV} (hv : v.length = 10) (h : hp.get a = some ⟨v, 10, false, 0, 30⟩) : loadAt tys hp 30 (.ptr a 0) = some (.agg v) := by
  obtain ⟨x0, x1, x2, x3, x4, x5, x6, x7, x8, x9, rfl⟩ := lst10 hv
  show (match hp.get a with | none => none | some b => partOf tys 30 b.cells 0) = _
  rw [h]
  rfl
theorem load30 {hp : Hp} {a : Nat} {v : List PV} (hv : v.length = 10) (h : hp.get a = some ⟨v, 10, false, 0, 30⟩) : primLoad tys hp 30 (some (.ptr a 0)) = some (.agg v, hp) := by
  show ret1 hp (loadAt tys hp 30 (.ptr a 0)) = _
  rw [loadAt30 hv h]; rfl
theorem src_form {lp : PV} (h : SrcL lp) : (∃ x, lp = .v x) ∨ ∃ es ex, lp = .sl es ex := (A.src_formed h).1
theorem build67 {lp : PV} (h : (∃ x, lp = .v x) ∨ ∃ es ex, lp = .sl es ex) (hp : Hp) : primBuild tys hp 67 (some [(0, lp)]) = some (.agg [lp, i 0], hp) := by
  rcases h with ⟨x, rfl⟩ | ⟨es, ex, rfl⟩ <;> rfl
theorem box67 {lp : PV} (h : (∃ x, lp = .v x) ∨ ∃ es ex, lp = .sl es ex) (hp : Hp) : primBox tys hp 67 (some (.agg [lp, i 0])) = some (.ptr hp.next 0, hp.new (src lp 0)) := by
  rcases h with ⟨x, rfl⟩ | ⟨es, ex, rfl⟩ <;> rfl
theorem build45 (hp : Hp) (j : Nat) : primBuild tys hp 45 (some [(0, .ptr j 0)]) = some (.agg [.ptr j 0, nl, i 0, .v (.bool false), i 0], hp) := _root_.id rfl
theorem box45 (hp : Hp) (j : Nat) : primBox tys hp 45 (some (.agg [.ptr j 0, nl, i 0, .v (.bool false), i 0])) = some (.ptr hp.next 0, hp.new ⟨[.ptr j 0, nl, i 0, .v (.bool false), i 0], 5, false, 0, 45⟩) := _root_.id rfl
/-- Maker's block -/
abbrev mb (w : Nat) (m : Bool) (n : Nat) : Blk := ⟨[.ptr 1 0, nl, i w, .v (.bool m), i n], 5, false, 0, 45⟩
abbrev zb : Blk := ⟨z30, 10, false, 0, 30⟩
abbrev H3 (w : Nat) (m : Bool) (n : Nat) (lp : PV) (a : Nat) : Hp := ⟨[(2, mb w m n), (1, src lp a), (0, zb)], 3, []⟩
theorem new11 {O : Orc} {n : Nat} {lp0 lp : PV} {m c : Nat} {k : PV → Hp → Option R} (hl : SrcL lp) (h1 : ∀ hp, primLen tys hp 22 (some lp0) = some (i c, hp)) (h2 : ∀ hp, primMin hp false (some [i c, i 50]) = some (i m, hp)) (h3 : ∀ hp, primSlice tys hp 22 (some lp0) (some none) (some (some (i m))) (some none) = some (lp, hp)) :
    callF tys fns11 O (run tys fns11 O (n + 1)) 11 [lp0] ⟨[(0, zb)], 1, []⟩ k = k (.ptr 2 0) (H3 0 false 0 lp 0) := by
  rw [call_own (fi := e11) rfl rfl rfl rfl rfl, b11, run_succ, c11_eq]
  have hf := src_form hl
  simp only [ev_seq, r11_0a, seqK_normal, r11_1a, h1, h2, h3, bP_some, build67 hf, box67 hf, build45, box45, ev_ret, seqK_ret, endK_ret, z11a, consO_some, oneR_one, bQ_some]
  rfl
theorem made_run {n : Nat} {lp0 lp : PV} {m c s a a' m' : Nat} {t : List UInt8} {X : List PV} (hX : X.length = 10) (hl : SrcL lp) (h1 : ∀ hp, primLen tys hp 22 (some lp0) = some (i c, hp)) (h2 : ∀ hp, primMin hp false (some [i c, i 50]) = some (i m, hp)) (h3 : ∀ hp, primSlice tys hp 22 (some lp0) (some none) (some (some (i m))) (some none) = some (lp, hp)) :
    ∃ h', ∀ k : PV → Hp → Option R, bodyF tys e4 (run tys fns11 (orcM lp s a a' m' t X) (n + 2)) [lp0] ⟨[], 0, []⟩ k = k (.agg X) h' := by
  refine ⟨?_, fun k => ?_⟩
  rotate_left
  · rw [b4, run_succ, c4_eq]
    have e0 : (⟨[], 0, []⟩ : Hp).new zb = ⟨[(0, zb)], 1, []⟩ := rfl
    have e1 : (⟨[], 0, []⟩ : Hp).next = 0 := rfl
    simp only [ev_seq, r4_0a, alloc30, e0, e1, bP_some, seqK_normal, r4_1a, new11 hl h1 h2 h3]
    have f2 : primFieldAddr tys (H3 0 false 0 lp 0) 45 2 (some (.ptr 2 0)) = some (.ptr 2 2, H3 0 false 0 lp 0) := rfl
    have g2 : primStore tys (H3 0 false 0 lp 0) 3 (some (.ptr 2 2)) (some (i 7)) = some (.un, H3 7 false 0 lp 0) := rfl
    have f3 : primFieldAddr tys (H3 7 false 0 lp 0) 45 3 (some (.ptr 2 0)) = some (.ptr 2 3, H3 7 false 0 lp 0) := rfl
    have g3 : primStore tys (H3 7 false 0 lp 0) 4 (some (.ptr 2 3)) (some (.v (.bool true))) = some (.un, H3 7 true 0 lp 0) := rfl
    have f0 : primFieldAddr tys (H3 7 true 0 lp 0) 45 0 (some (.ptr 2 0)) = some (.ptr 2 0, H3 7 true 0 lp 0) := rfl
    have l0 : primLoad tys (H3 7 true 0 lp 0) 42 (some (.ptr 2 0)) = some (.ptr 1 0, H3 7 true 0 lp 0) := rfl
    have c14 : ∀ k : PV → Hp → Option R, callF tys fns11 (orcM lp s a a' m' t X) (run tys fns11 (orcM lp s a a' m' t X) (n + 1)) 14 [.ptr 1 0, i 8] (H3 7 true 0 lp 0) k = k (i s) (H3 7 true 0 lp a) := fun k =>
      call_state (b := src lp 0) rfl rfl rfl (src_ok hl 0) (iff_t rfl _ _) rfl (by
        have := src_ok hl a
        simp only [stOk, Bool.and_eq_true] at this
        exact this.2.2.2)
    have c15 : ∀ k : PV → Hp → Option R, callF tys fns11 (orcM lp s a a' m' t X) (run tys fns11 (orcM lp s a a' m' t X) (n + 1)) 15 [] (H3 7 true 0 lp a) k = k env4 (H3 7 true 0 lp a) := fun k =>
      call_asked rfl rfl (iff_t rfl _ _)
    have c13 : ∀ k : PV → Hp → Option R, callF tys fns11 (orcM lp s a a' m' t X) (run tys fns11 (orcM lp s a a' m' t X) (n + 1)) 13 [.ptr 2 0, i s, i 3, env4] (H3 7 true 0 lp a) k = k (Str t) (H3 7 true m' lp a') := fun k =>
      call_state2 (b := mb 7 true 0) (b1 := src lp a) (r := [nl, i 7, .v (.bool true), i 0]) rfl rfl rfl rfl rfl rfl (by
        have := src_ok hl a
        rw [this]; rfl) (iff_t rfl _ _) (by
        have := src_ok hl a'
        simp only [stOk, Bool.and_eq_true] at this
        rw [show stCells [lp, i a'] = true from this.2.2.2]; rfl)
    have c12 : ∀ k : PV → Hp → Option R, callF tys fns11 (orcM lp s a a' m' t X) (run tys fns11 (orcM lp s a a' m' t X) (n + 1)) 12 [Str t] (H3 7 true m' lp a') k = k (.tup [.agg X, i 0, i 0]) (H3 7 true m' lp a') := fun k =>
      call_asked rfl rfl (iff_t rfl _ _)
    simp only [r4_2a, nil_ptr, f2, g2, f3, g3, bP_some, seqK_normal, ev_seq, r4_3a, f0, l0, c14, c15, c13, c12, ext0, ext1, ext2, alloc30]
    have s1 := store30 (hp := (H3 7 true m' lp a').new zb) (a := 3) hX (c := z30) rfl rfl
    have l1 := load30 (hp := ((H3 7 true m' lp a').new zb).put 3 ⟨X, 10, false, 0, 30⟩) (a := 3) hX rfl
    have s2 := store30 (hp := ((H3 7 true m' lp a').new zb).put 3 ⟨X, 10, false, 0, 30⟩) (a := 0) hX (c := z30) rfl rfl
    have l2 := loadAt30 (hp := (((H3 7 true m' lp a').new zb).put 3 ⟨X, 10, false, 0, 30⟩).put 0 ⟨X, 10, false, 0, 30⟩) (a := 0) hX rfl
    simp only [show (H3 7 true m' lp a').next = 3 from rfl, s1, bP_some, seqK_normal, ev_seq, r4_4a, l1, s2, ev_ret, seqK_ret, endK_ret, z4a, l2, consO_some, oneR_one, bQ_some]
    rfl
end Go.Ev

/- made: known. -/
namespace Go.Ev.A
open Go.Proofs
theorem formed_still {c : PV} (h : formed c) : Still c := by
  rcases h.1 with ⟨x, rfl⟩ | ⟨es, ex, rfl⟩
  · exact still_v _
  · exact still_sl _ _
theorem freeze_agg {X : List PV} (h : ∀ c ∈ X, formed c) {n : Nat} (hn : X.length ≤ n) (hp : Hp) : freeze (n + 2) hp (.agg X) = some (.agg X, hp) := by
  show (match freezeL (n + 1) hp X with | none => none | some (l, h) => some (PV.agg l, h)) = _
  rw [freezeL_still X n hp (fun c hc => formed_still (h c hc)) hn]
theorem BB3 : BB 3 = 2380 := by decide
theorem NN3 : NN 3 = 40 := by decide
theorem made_known [Env] {lp0 : PV} {zs : List Int} (h : IsL lp0 zs) : ∃ X, X.length = 10 ∧ (∀ c ∈ X, formed c) ∧ Ez 15 X ∧ Known Tryz.prog 4 [lp0] (.agg X) := by
  obtain ⟨lp, m, h1, h2, h3, hl⟩ := cut_list (hp := ⟨[], 0, []⟩) h
  obtain ⟨s, a, hs, h14⟩ := next_f hl 0 8 (by omega) (by omega)
  obtain ⟨t, a', m', _, _, h13, hw, ht⟩ := expr_f hl 3 (Nat.le_refl _) a 0 s env4 hs env4_ok (by rw [NN3]; omega)
  rw [BB3] at ht
  obtain ⟨X, x1, x2, x3, h12⟩ := parse_known hw (by omega) (by omega)
  refine ⟨X, x1, x2, x3, ?_⟩
  obtain ⟨h', hr⟩ := made_run (R := PV) (n := 0) (s := s) (a := a) (a' := a') (m' := m') (t := t) x1 hl (lp0 := lp0) (m := m) (c := zs.length) (fun hp => by
    obtain ⟨_, _, g1, _⟩ := cut_list (hp := hp) h
    exact g1) (fun hp => by
    have : primMin (⟨[], 0, []⟩ : Hp) false (some [i zs.length, i 50]) = some (i m, ⟨[], 0, []⟩) := h2
    show ret1 hp (minmax false [i zs.length, i 50]) = _
    have e : ret1 (⟨[], 0, []⟩ : Hp) (minmax false [i zs.length, i 50]) = some (i m, ⟨[], 0, []⟩) := this
    cases hq : minmax false [i zs.length, i 50] with
    | none => rw [hq] at e; cases e
    | some q => rw [hq] at e; cases e; rfl) (fun hp => by
    have e : ret1 (⟨[], 0, []⟩ : Hp) (sliceOf tys 22 lp0 none (some (i m)) none) = some (lp, ⟨[], 0, []⟩) := h3
    show ret1 hp (sliceOf tys 22 lp0 none (some (i m)) none) = _
    cases hq : sliceOf tys 22 lp0 none (some (i m)) none with
    | none => rw [hq] at e; cases e
    | some q => rw [hq] at e; cases e; rfl)
  exact known_runD tOk mixed fns11Ok (orcM_ok h14 h13 h12) e4ok hr (freeze_agg (n := 999999999998) x2 (by omega) h')
end Go.Ev.A
