/- A leaf's run is known. -/
import Derived.Test.YtmlnfoabpcccnaaGreatEvCe
set_option linter.all false
/- A leaf's run is known. -/
namespace Go.Ev.A
open Go.Proofs
theorem orcL_ok [Env] {P : Program} : ∀ {cs : Cl}, (∀ e ∈ cs, KnownX P e.1 e.2.1 e.2.2) → OrcOk P (orcL cs)
  | [], _, f, ds, q, h => by cases h
  | (g, key, a) :: r, hk, f, ds, q, h => by
    have hr := orcL_ok (cs := r) fun e he => hk e (List.mem_cons_of_mem _ he)
    unfold orcL at h
    split at h
    · rename_i hg
      obtain rfl := Nat.eq_of_beq_eq_true hg
      split at h
      · rename_i hp
        cases h
        exact find_ok (pg := [(key, a)]) ⟨hk _ (List.mem_cons_self ..), trivial⟩ (by unfold find; rw [hp])
      · exact hr _ _ _ h
    · exact hr _ _ _ h
theorem binEq_eq {a b : BinOp} (h : binEq a b = true) : a = b := by
  unfold binEq at h
  split at h <;> first | rfl | cases h
section
variable [E : Env]
theorem res_sub {σ : Nat → PV} (hσ : Fit σ) {x : PV} (h : flatV x) : @res (E.put σ hσ.form) x = Ev.sub σ x := by
  rcases h with ⟨k, rfl⟩ | ⟨v, rfl⟩
  · rw [Ev.sub]; rfl
  · rw [Ev.sub]; rfl
theorem askL_eq {σ : Nat → PV} (hσ : Fit σ) {n : Nat} : ∀ {os : List OpQ}, OsOk n σ os → ∀ (o : AskOp) (l : List PV) (q : PV), askL os o l = some q → @AskEq (E.put σ hσ.form) tys o l q
  | [], _, o, l, q, h => by cases h
  | a :: r, ho, o, l, q, h => by
    have hr := askL_eq hσ (os := r) fun e he => ho e (List.mem_cons_of_mem _ he)
    unfold askL at h
    split at h
    · rename_i o' t x y
      split at h
      · rename_i hb
        cases h
        simp only [Bool.and_eq_true] at hb
        obtain ⟨b1, b2, b3, b4⟩ := hb
        obtain ⟨g1, _, _, _, g2, g3, g4⟩ := ho a (List.mem_cons_self ..)
        obtain ⟨ao, aty, ax, ay, aa⟩ := a
        simp only at b1 b2 b3 b4 g1 g2 g3 g4 ⊢
        obtain rfl := binEq_eq b1
        obtain rfl := Nat.eq_of_beq_eq_true b2
        obtain rfl := eqC_eq b3
        obtain rfl := eqC_eq b4
        refine ⟨Ev.sub σ aa, ?_, ?_⟩
        · rw [res_sub hσ g2, res_sub hσ g3]; exact g1
        · rcases g4 with ⟨k, rfl⟩ | ⟨v, rfl⟩
          · letI := E.put σ hσ.form
            exact Le.unk (by rw [Ev.sub]; rfl)
          · rw [Ev.sub]; exact @Le.refl (E.put σ hσ.form) _
      · exact hr _ _ _ h
    · cases h
theorem leaf_use {lf : Lf} {σ : Nat → PV} (hσ : Fit σ) (hc : CsOk lf.n σ lf.cs) (ho : OsOk lf.n σ lf.os) {f : Nat} {fi : FI} (hfi : ∀ [Env], FIOk Tryz.prog f fi) {FT : Fns} (hF : ∀ [Env], FTOk Tryz.prog FT) {cs ds cs' : List PV} {q : PV}
    (h : goesF ⟨tysT, askL lf.os⟩ FT (orcL lf.cs) 10000 fi 45 cs ds q cs' = true) : KnownS Tryz.prog f 45 (subL σ cs) (subL σ ds) (Ev.sub σ q) (subL σ cs') := by
  refine (KnownS.sub hσ).1 ?_
  have ha := askL_eq hσ ho
  have hk : ∀ e ∈ lf.cs, @KnownX (E.put σ hσ.form) Tryz.prog e.1 e.2.1 e.2.2 := fun e he => KnownX.unsub hσ (hc e he).1
  letI := E.put σ hσ.form
  exact knownS_goes (T := ⟨tysT, askL lf.os⟩) (TOk.asked (T := tys) tOk (AskOk.of tOk ha)) mixed hF (orcL_ok hk) hfi h
/-- the same for a function of values -/
theorem leaf_useD {lf : Lf} {σ : Nat → PV} (hσ : Fit σ) (hc : CsOk lf.n σ lf.cs) (ho : OsOk lf.n σ lf.os) {f : Nat} {fi : FI} (hfi : ∀ [Env], FIOk Tryz.prog f fi) {FT : Fns} (hF : ∀ [Env], FTOk Tryz.prog FT) {ds : List PV} {q : PV}
    (h : goesD ⟨tysT, askL lf.os⟩ FT (orcL lf.cs) 10000 fi ds q = true) : Known Tryz.prog f (subL σ ds) (Ev.sub σ q) := by
  refine (Known.sub hσ).1 ?_
  have ha := askL_eq hσ ho
  have hk : ∀ e ∈ lf.cs, @KnownX (E.put σ hσ.form) Tryz.prog e.1 e.2.1 e.2.2 := fun e he => KnownX.unsub hσ (hc e he).1
  letI := E.put σ hσ.form
  exact known_goes (T := ⟨tysT, askL lf.os⟩) (TOk.asked (T := tys) tOk (AskOk.of tOk ha)) mixed hF (orcL_ok hk) hfi h
end
end Go.Ev.A

/- Texts and their tokens. -/
namespace Go.Ev.A
open Go.Proofs
def bts (w : List Nat) : List UInt8 := w.map UInt8.ofNat
/-- a byte of a name -/
def wordB (c : UInt8) : Bool := (Nat.ble 97 c.toNat && Nat.ble c.toNat 122) || ((Nat.ble 48 c.toNat && Nat.ble c.toNat 57) || (Nat.beq c.toNat 95 || (Nat.ble 65 c.toNat && Nat.ble c.toNat 90)))
def aft (cls : Nat) (c : UInt8) : Bool := match cls with
  | 0 => true
  | 1 => !wordB c
  | _ => Nat.beq c.toNat 32
/-- the tokens are written so; b: the byte behind them -/
inductive Sp : List TV → List UInt8 → UInt8 → Prop where
  | nil {b : UInt8} : Sp [] [] b
  | cons {y : TV} {x : Lx} {sp s : List UInt8} {ts : List TV} {b : UInt8} : x ∈ lexs → (∀ at_, tokCells y.vt y.vn at_ y.x = [I x.k, x.t, x.n, .v at_]) → (sp = [] ∨ sp = [32]) → aft x.cls (s.headD b) = true → Sp ts s b → Sp (y :: ts) (sp ++ (bts x.w ++ s)) b
theorem headD_app {s t : List UInt8} {b : UInt8} : (s ++ t).headD b = s.headD (t.headD b) := by cases s <;> rfl
theorem Sp.app {ts us : List TV} {s t : List UInt8} {b c : UInt8} (h : Sp ts s c) (hc : c = t.headD b) (g : Sp us t b) : Sp (ts ++ us) (s ++ t) b := by
  induction h with
  | nil => exact g
  | cons h1 h2 h3 h4 h5 ih =>
    rw [List.cons_append, List.append_assoc, List.append_assoc]
    refine .cons h1 h2 h3 ?_ (ih hc)
    rw [headD_app, ← hc]
    exact h4
theorem Sp.space {ts : List TV} {s : List UInt8} {b : UInt8} (h : Sp ts s b) (hn : ts ≠ []) (hs : s.head? ≠ some 32) : Sp ts (32 :: s) b := by
  cases h with
  | nil => exact absurd rfl hn
  | @cons y x sp s ts b h1 h2 h3 h4 h5 =>
    rcases h3 with rfl | rfl
    · exact .cons (sp := [32]) h1 h2 (.inr rfl) h4 h5
    · exact absurd rfl hs
theorem Gr.mono {n : Nat} {ts : List TV} (h : Gr n ts) : ∀ {m : Nat}, n ≤ m → Gr m ts := by
  induction h with
  | @mk n it vt vn sub hi hV hN hs ih =>
    intro m hm
    obtain ⟨k, rfl⟩ : ∃ k, m = k + 1 := ⟨m - 1, by omega⟩
    refine .mk hi hV hN fun j hj => ih j hj ?_
    unfold lev
    split <;> omega
theorem Gr.ne {n : Nat} {ts : List TV} (h : Gr n ts) : ts ≠ [] := by
  obtain ⟨k, s, m, vt, vn, r, rfl, _⟩ := h.first
  exact List.cons_ne_nil _ _
/-- tokens with a text or a number that is not the same in every text -/
def varTok : It → Bool
  | .tok k (.unk a) n => eqT (.tok k (.unk a) n) vTok
  | .tok k s (.unk a) => eqT (.tok k s (.unk a)) nTok
  | .tok _ (.v _) (.v _) => true
  | _ => false
theorem toks_var : toks.all varTok = true := by kernel_rfl
theorem tok_kinds {k : Nat} {s n : PV} (h : .tok k s n ∈ toks) : It.tok k s n = vTok ∨ It.tok k s n = nTok ∨ ∃ t m, s = .v t ∧ n = .v m := by
  have h := List.all_eq_true.1 toks_var _ h
  unfold varTok at h
  split at h
  · rename_i e; exact .inl (e ▸ eqT_eq h)
  · rename_i e; exact .inr (.inl (e ▸ eqT_eq h))
  · rename_i e; cases e; exact .inr (.inr ⟨_, _, rfl, rfl⟩)
  · cases h
theorem litLx_mem {k : Nat} {t m : Value} : ∀ {l : List It}, .tok k (.v t) (.v m) ∈ l → ⟨k, .v t, .v m, litW k (.v t), clsOf k (.v t)⟩ ∈ litLx l
  | x :: r, h => by
    rcases List.mem_cons.1 h with rfl | h
    · exact List.mem_cons_self ..
    · have := litLx_mem h
      unfold litLx
      split
      · cases ‹_ :: _ = []›
      · rename_i e
        cases e
        exact List.mem_cons_of_mem _ this
      · rename_i e
        cases e
        exact this
theorem flatP_lit {σ : Nat → PV} : ∀ (w : List Nat), flatP σ (w.map .b) = bts w
  | [] => rfl
  | c :: r => by rw [List.map_cons, flatP, flatP_lit r]; rfl
/-- the number in a number's token -/
def numOf (σ : Nat → PV) (Γ : Ctx) (m : NumS) (vn : Value) : Prop := match m with
  | .lit d => vn = .int .i64 (.ofNat d)
  | .u k => ty Γ k = some .small → ∃ s ∈ smalls, σ k = S s.1 ∧ vn = .int .i64 s.2
def nameOf (σ : Nat → PV) (Γ : Ctx) (v : Nat) (vt : Value) : Prop := ty Γ v = some .var → ∃ t ∈ varTxts, σ v = S t ∧ vt = .string ⟨⟨bts t⟩⟩
theorem tok_lx {σ : Nat → PV} {Γ : Ctx} {v : Nat} {m : NumS} {vt vn : Value} (hv : nameOf σ Γ v vt) (hn : numOf σ Γ m vn) {k : Nat} {s n : PV} (h : .tok k s n ∈ toks) (hs : slotB Γ v m (.tok k s n) = true) :
    ∃ x ∈ lexs, (∀ at_, tokCells vt vn at_ (.tok k s n) = [I x.k, x.t, x.n, .v at_]) ∧ bts x.w = flatP σ (tokPc v m (.tok k s n)) ∧ x.cls = clsIt (.tok k s n) ∧ x.k = k := by
  rcases tok_kinds h with e | e | ⟨t, z, rfl, rfl⟩
  · cases e
    unfold slotB at hs
    simp only [] at hs
    split at hs
    · rename_i hk
      obtain ⟨t, h1, h2, rfl⟩ := hv hk
      refine ⟨⟨2, S t, I 0, t, 1⟩, List.mem_append_left _ (List.mem_append_right _ (List.mem_map.2 ⟨t, h1, rfl⟩)), fun at_ => rfl, ?_, rfl, rfl⟩
      show bts t = flatP σ [.u v]
      rw [one_piece (l := bts t) h2]
    · cases hs
  · cases e
    unfold slotB at hs
    simp only [] at hs
    cases m with
    | lit d =>
      have hd := Nat.le_of_ble_eq_true hs
      obtain rfl : vn = .int .i64 (.ofNat d) := hn
      rcases (by omega : d = 0 ∨ d = 1 ∨ d = 2 ∨ d = 3 ∨ d = 4) with rfl | rfl | rfl | rfl | rfl
      · exact ⟨⟨3, S [], .v (.int .i64 0), [48], 1⟩, List.mem_append_right _ (List.mem_map.2 ⟨([48], 0), by simp [smalls], rfl⟩), fun _ => rfl, rfl, rfl, rfl⟩
      · exact ⟨⟨3, S [], .v (.int .i64 1), [49], 1⟩, List.mem_append_right _ (List.mem_map.2 ⟨([49], 1), by simp [smalls], rfl⟩), fun _ => rfl, rfl, rfl, rfl⟩
      · exact ⟨⟨3, S [], .v (.int .i64 2), [50], 1⟩, List.mem_append_right _ (List.mem_map.2 ⟨([50], 2), by simp [smalls], rfl⟩), fun _ => rfl, rfl, rfl, rfl⟩
      · exact ⟨⟨3, S [], .v (.int .i64 3), [51], 1⟩, List.mem_append_right _ (List.mem_map.2 ⟨([51], 3), by simp [smalls], rfl⟩), fun _ => rfl, rfl, rfl, rfl⟩
      · exact ⟨⟨3, S [], .v (.int .i64 4), [52], 1⟩, List.mem_append_right _ (List.mem_map.2 ⟨([52], 4), by simp [smalls], rfl⟩), fun _ => rfl, rfl, rfl, rfl⟩
    | u k =>
      simp only [] at hs
      split at hs
      · rename_i hk
        obtain ⟨t, h1, h2, rfl⟩ := hn hk
        refine ⟨⟨3, S [], .v (.int .i64 t.2), t.1, 1⟩, List.mem_append_right _ (List.mem_map.2 ⟨t, h1, rfl⟩), fun at_ => rfl, ?_, rfl, rfl⟩
        show bts t.1 = flatP σ [.u k]
        rw [one_piece (l := bts t.1) h2]
      · cases hs
  · refine ⟨⟨k, .v t, .v z, litW k (.v t), clsOf k (.v t)⟩, List.mem_append_left _ (List.mem_append_left _ (litLx_mem h)), fun _ => rfl, ?_, rfl, rfl⟩
    exact (flatP_lit _).symm
/-- a token's first byte: no space, and a sign's belongs to no word -/
def firstB (x : Lx) : Bool := match x.w with
  | [] => false
  | c :: _ => !Nat.beq (UInt8.ofNat c).toNat 32 && (!Nat.beq x.k 6 || !wordB (UInt8.ofNat c))
theorem lexs_first : lexs.all firstB = true := by kernel_rfl
theorem lex_first {x : Lx} (h : x ∈ lexs) : ∃ c r, bts x.w = c :: r ∧ c ≠ 32 ∧ (x.k = 6 → wordB c = false) := by
  have h := List.all_eq_true.1 lexs_first _ h
  unfold firstB at h
  split at h
  · cases h
  · rename_i c r e
    simp only [Bool.and_eq_true, Bool.or_eq_true, Bool.not_eq_true'] at h
    refine ⟨UInt8.ofNat c, bts r, by rw [e]; rfl, ?_, fun hk => ?_⟩
    · intro e
      rw [e] at h
      simp at h
    · rcases h.2 with h | h
      · rw [hk] at h; simp at h
      · exact h
/-- a written text that is read as an expression of at most n levels -/
def Wr (n : Nat) (l : List UInt8) : Prop := l.head? ≠ some 32 ∧ ∃ ts, Gr n ts ∧ ∀ b, wordB b = false → Sp ts l b
theorem Wr.mono {n m : Nat} (h : n ≤ m) {l : List UInt8} (hw : Wr n l) : Wr m l := ⟨hw.1, hw.2.choose, hw.2.choose_spec.1.mono h, hw.2.choose_spec.2⟩
theorem sp_head {f : Bool} {x : List UInt8} {b : UInt8} {σ : Nat → PV} {l : List Pc} : (flatP σ (spPc true ++ l)).headD b = 32 := rfl
/-- what the items of a production come to -/
theorem items_sp {σ : Nat → PV} {Γ : Ctx} {v : Nat} {m : NumS} {vt vn : Value} (hv : nameOf σ Γ v vt) (hn : numOf σ Γ m vn) {ok : Nat → Bool} {T : Nat → List Pc} {sub : Nat → List TV}
    (hs : ∀ j, ok j = true → sub j ≠ [] ∧ (flatP σ (T j)).head? ≠ some 32 ∧ ∀ b, wordB b = false → Sp (sub j) (flatP σ (T j)) b) :
    ∀ (r : List It) (j : Nat) (fl : List Bool), (∀ k s n, It.tok k s n ∈ r → It.tok k s n ∈ toks) → itemsB Γ v m ok j fl r = true → ∀ b, wordB b = false → Sp (fill vt vn sub j r) (flatP σ (flatI v m T j fl r)) b ∧
      (∀ y z, r = y :: z → isSign y = true ∨ fl.headD false = true → wordB ((flatP σ (flatI v m T j fl r)).headD b) = false) ∧ (fl.headD false = true → r ≠ [] → (flatP σ (flatI v m T j fl r)).headD b = 32)
  | [], j, fl, _, _, b, hb => ⟨.nil, (fun y z e => by cases e), fun _ h => absurd rfl h⟩
  | .hole :: r, j, fl, ht, h, b, hb => by
    simp only [itemsB, Bool.and_eq_true] at h
    obtain ⟨h1, h2, h3⟩ := h
    obtain ⟨i1, i2, i3⟩ := items_sp hv hn hs r (j + 1) fl.tail (fun k s n hx => ht k s n (List.mem_cons_of_mem _ hx)) h3 b hb
    obtain ⟨g0, g1, g2⟩ := hs j h1
    have hc : wordB ((flatP σ (flatI v m T (j + 1) fl.tail r)).headD b) = false := by
      unfold aftB clsIt at h2
      simp only [] at h2
      cases r with
      | nil => exact hb
      | cons y z =>
        simp only [Bool.or_eq_true] at h2
        exact i2 y z rfl (h2.symm)
    have base : Sp (sub j ++ fill vt vn sub (j + 1) r) (flatP σ (T j) ++ flatP σ (flatI v m T (j + 1) fl.tail r)) b := Sp.app (g2 _ hc) rfl i1
    have e : flatP σ (flatI v m T j fl (.hole :: r)) = flatP σ (spPc (fl.headD false)) ++ (flatP σ (T j) ++ flatP σ (flatI v m T (j + 1) fl.tail r)) := by
      rw [flatI, flatP_app, flatP_app]
    rw [e]
    cases hf : fl.headD false with
    | false =>
      refine ⟨base, fun y z e hh => ?_, fun h => by cases h⟩
      cases e
      rcases hh with hh | hh
      · cases hh
      · cases hh
    | true =>
      refine ⟨?_, fun y z e hh => rfl, fun _ _ => rfl⟩
      have hne : (flatP σ (T j) ++ flatP σ (flatI v m T (j + 1) fl.tail r)).head? ≠ some 32 := by
        have hT : flatP σ (T j) ≠ [] := by
          intro e0
          have := g2 32 rfl
          rw [e0] at this
          generalize hq : ([] : List UInt8) = q at this
          generalize hr : sub j = w at this
          cases this with
          | nil => exact g0 hr
          | cons h1 h2 h3 h4 h5 =>
            obtain ⟨c, r, e1, _⟩ := lex_first h1
            rw [e1] at hq
            rcases h3 with rfl | rfl <;> simp at hq
        cases hq : flatP σ (T j) with
        | nil => exact absurd hq hT
        | cons c r => rw [hq] at g1; exact g1
      exact base.space (by simp [g0]) hne
  | .tok k s n :: r, j, fl, ht, h, b, hb => by
    simp only [itemsB, Bool.and_eq_true] at h
    obtain ⟨h1, h2, h3⟩ := h
    obtain ⟨i1, i2, i3⟩ := items_sp hv hn hs r (j + 1) fl.tail (fun k s n hx => ht k s n (List.mem_cons_of_mem _ hx)) h3 b hb
    obtain ⟨x, x1, x2, x3, x4, x5⟩ := tok_lx hv hn (ht _ _ _ (List.mem_cons_self ..)) h1
    obtain ⟨c, cr, y1, y2, y3⟩ := lex_first x1
    have ha : aft x.cls ((flatP σ (flatI v m T (j + 1) fl.tail r)).headD b) = true := by
      rw [x4]
      unfold aftB at h2
      generalize clsIt (.tok k s n) = q at h2 ⊢
      match q with
      | 0 => rfl
      | 1 =>
        show (!wordB _) = true
        simp only [] at h2
        cases r with
        | nil => show (!wordB b) = true; rw [hb]; rfl
        | cons y z =>
          simp only [Bool.or_eq_true] at h2
          rw [i2 y z rfl h2.symm]; rfl
      | q + 2 =>
        simp only [] at h2
        cases r with
        | nil => cases h2
        | cons y z =>
          simp only [] at h2
          rw [i3 h2 (by simp)]; rfl
    have e : flatP σ (flatI v m T j fl (.tok k s n :: r)) = flatP σ (spPc (fl.headD false)) ++ (bts x.w ++ flatP σ (flatI v m T (j + 1) fl.tail r)) := by
      rw [flatI, flatP_app, flatP_app, x3]
    rw [e]
    refine ⟨.cons (y := ⟨.tok k s n, vt, vn⟩) x1 x2 ?_ ha i1, fun y z e hh => ?_, fun hf _ => by rw [hf]; rfl⟩
    · cases fl.headD false
      · exact .inl rfl
      · exact .inr rfl
    · cases e
      cases hf : fl.headD false with
      | true => rfl
      | false =>
        rw [hf] at hh
        rcases hh with hh | hh
        · have hk : x.k = 6 := by
            unfold isSign at hh
            split at hh
            · rename_i e; cases e; exact x5
            · cases hh
          show wordB ((bts x.w ++ _).headD b) = false
          rw [y1]
          exact y3 hk
        · cases hh
end Go.Ev.A

/- A written expression is read as one. -/
namespace Go.Ev.A
open Go.Proofs
def capB (t : List Nat) : Bool := match t with
  | c :: _ => Nat.ble 65 (UInt8.ofNat c).toNat && Nat.ble (UInt8.ofNat c).toNat 90
  | [] => false
theorem vars_cap : varTxts.all capB = true := by kernel_rfl
theorem var_cap {t : List Nat} (h : t ∈ varTxts) : Cap (.string ⟨⟨bts t⟩⟩) := by
  have h := List.all_eq_true.1 vars_cap _ h
  unfold capB at h
  split at h
  · rename_i c r _
    simp only [Bool.and_eq_true] at h
    exact ⟨UInt8.ofNat c, bts r, rfl, Nat.le_of_ble_eq_true h.1, Nat.le_of_ble_eq_true h.2⟩
  · cases h
theorem name_of {p : Pm} {n : Nat} {Γ : Ctx} {σ : Nat → PV} (H : Sat p n Γ σ) (v : Nat) : ∃ vt, nameOf σ Γ v vt ∧ Cap vt := by
  by_cases hk : ty Γ v = some .var
  · obtain ⟨_, ⟨t, h1, h2⟩, _⟩ := H.ok _ _ hk
    exact ⟨_, fun _ => ⟨t, h1, h2, rfl⟩, var_cap h1⟩
  · exact ⟨.string ⟨⟨bts [88]⟩⟩, fun h => absurd h hk, var_cap (by simp [varTxts])⟩
theorem num_of {p : Pm} {n : Nat} {Γ : Ctx} {σ : Nat → PV} (H : Sat p n Γ σ) (m : NumS) : ∃ vn, numOf σ Γ m vn ∧ IntV vn := by
  cases m with
  | lit d => exact ⟨_, rfl, _, rfl⟩
  | u k =>
    by_cases hk : ty Γ k = some .small
    · obtain ⟨_, ⟨t, h1, h2⟩, _⟩ := H.ok _ _ hk
      exact ⟨_, (fun _ => ⟨t, h1, h2, rfl⟩), _, rfl⟩
    · exact ⟨.int .i64 0, (fun h => absurd h hk), _, rfl⟩
theorem itemsB_hole {Γ : Ctx} {v : Nat} {m : NumS} {ok : Nat → Bool} : ∀ {r : List It} {j : Nat} {fl : List Bool}, itemsB Γ v m ok j fl r = true → ∀ {q : Nat}, r[q]? = some .hole → ok (j + q) = true
  | [], _, _, _, q, h => by simp at h
  | .hole :: r, j, fl, g, 0, h => by
    simp only [itemsB, Bool.and_eq_true] at g
    exact g.1
  | .tok k s n :: r, j, fl, g, 0, h => by simp at h
  | .hole :: r, j, fl, g, q + 1, h => by
    simp only [itemsB, Bool.and_eq_true] at g
    have := itemsB_hole g.2.2 (q := q) (by simpa using h)
    rwa [show j + 1 + q = j + (q + 1) by omega] at this
  | .tok k s n :: r, j, fl, g, q + 1, h => by
    simp only [itemsB, Bool.and_eq_true] at g
    have := itemsB_hole g.2.2 (q := q) (by simpa using h)
    rwa [show j + 1 + q = j + (q + 1) by omega] at this
theorem prods_len : prods.length = 46 := rfl
theorem tt_sem {p : Pm} {n : Nat} {Γ : Ctx} {σ : Nat → PV} (H : Sat p n Γ σ) {base : Nat} (hh : ∀ l, p.hole l → Wr base l) : ∀ (tt : TT) (h : Nat), ttOk Γ tt h = true → Wr (base + h) (flatP σ (flat tt)) := by
  intro tt
  induction tt with
  | hole k =>
    intro h g
    unfold ttOk at g
    split at g
    · rename_i hk
      obtain ⟨_, ⟨l, h1, h2, _⟩, _⟩ := H.ok _ _ hk
      rw [flat, one_piece h1]
      exact (hh l h2).mono (by omega)
    · cases g
  | prod i fl v m sub ih =>
    intro h g
    simp only [ttOk, Bool.and_eq_true, Bool.not_eq_true'] at g
    obtain ⟨g1, g2, g3, g4⟩ := g
    have g1 := Nat.le_of_ble_eq_true g1
    have g2 : i < 46 := Nat.le_of_ble_eq_true g2
    obtain ⟨h, rfl⟩ : ∃ k, h = k + 1 := ⟨h - 1, by omega⟩
    obtain ⟨it, hit⟩ : ∃ it, prods[i]? = some it := ⟨_, List.getElem?_eq_getElem (by rw [prods_len]; exact g2)⟩
    have hi := List.mem_of_getElem? hit
    have he : prods.getD i [] = it := by rw [List.getD_eq_getElem?_getD, hit]; rfl
    rw [flat, he]
    rw [he] at g4
    have ho := prod_ok hi
    obtain ⟨vt, n1, n2⟩ := name_of H v
    obtain ⟨vn, n3, n4⟩ := num_of H m
    generalize hok : (fun j => match twoAt it j with
      | true => Nat.ble 2 (h + 1) && ttOk Γ (sub j) (h + 1 - 2)
      | false => ttOk Γ (sub j) (h + 1 - 1)) = ok at g4
    have hw : ∀ j, ∃ ts, ok j = true → (Gr (lev (base + h) it j) ts ∧ (flatP σ (flat (sub j))).head? ≠ some 32 ∧ ∀ b, wordB b = false → Sp ts (flatP σ (flat (sub j))) b) := by
      intro j
      cases hj : ok j with
      | false => exact ⟨[], fun h => by cases h⟩
      | true =>
        rw [← hok] at hj
        simp only [] at hj
        unfold lev
        cases ht : twoAt it j with
        | true =>
          rw [ht] at hj
          simp only [Bool.and_eq_true] at hj
          have h2 := Nat.le_of_ble_eq_true hj.1
          obtain ⟨w1, ts, w2, w3⟩ := ih j _ hj.2
          exact ⟨ts, fun _ => ⟨w2.mono (by simp only []; omega), w1, w3⟩⟩
        | false =>
          rw [ht] at hj
          obtain ⟨w1, ts, w2, w3⟩ := ih j _ hj
          exact ⟨ts, fun _ => ⟨w2.mono (by simp only []; omega), w1, w3⟩⟩
    obtain ⟨subs, hsub⟩ := Classical.axiomOfChoice hw
    have hitems := items_sp n1 n3 (ok := ok) (T := fun j => flat (sub j)) (sub := subs) (fun j hj => ⟨(hsub j hj).1.ne, (hsub j hj).2⟩) it 0 fl (fun k s nn hx => by
      obtain ⟨q, hq⟩ := List.getElem?_of_mem hx
      exact ho.tok q k s nn hq) g4
    have hholes : ∀ q, it[q]? = some .hole → ok q = true := by
      intro q hq
      have := itemsB_hole g4 hq
      rwa [Nat.zero_add] at this
    refine ⟨?_, fill vt vn subs 0 it, .mk hi n2 n4 fun q hq => (hsub q (hholes q hq)).1, fun b hb => (hitems b hb).1⟩
    have hf := ho.first
    rcases it with _ | ⟨x, r⟩
    · cases hf
    · cases x with
      | hole => cases hf
      | tok k s nn =>
        simp only [itemsB, Bool.and_eq_true] at g4
        obtain ⟨x, x1, x2, x3, x4, x5⟩ := tok_lx n1 n3 (ho.tok 0 k s nn rfl) g4.1
        obtain ⟨c, cr, y1, y2, y3⟩ := lex_first x1
        rw [flatI, flatP_app, flatP_app, ← x3, g3, y1]
        intro e
        simp [spPc, flatP] at e
        exact y2 e
end Go.Ev.A

/- Reading one token, and skipping a space: what is asked and answered. -/
namespace Go.Ev.A
open Go.Proofs
abbrev U (c : Nat) : PV := .v (.int .u8 (.ofNat c))
def lowB (c : Nat) : Bool := Nat.ble 97 c && Nat.ble c 122
def uppB (c : Nat) : Bool := Nat.ble 65 c && Nat.ble c 90
def digB (c : Nat) : Bool := Nat.ble 48 c && Nat.ble c 57
def headS : PV → Option Nat
  | .v (.string s) => match s.data.toList with
    | c :: _ => some c.toNat
    | [] => none
  | _ => none
/-- byte k of a token's text, or the byte behind it -/
def byteW (x : Lx) (k : Nat) : Option PV := match x.w[k]? with
  | some c => some (U c)
  | none => match Nat.beq k x.w.length with
    | false => none
    | true => match x.cls with
      | 2 => some (U 32)
      | _ => some (.unk 3)
/-- a part of the text; e: the text ends with the token -/
def cutW (x : Lx) (e : Bool) (a b : Nat) : Option PV := match Nat.ble a b, Nat.ble b x.w.length with
  | true, true => some (S ((x.w.take b).drop a))
  | true, false => match x.w, a, b, e with
    | [c], 0, 2, false => match x.cls with
      | 2 => some (S [c, 32])
      | _ => some (.unk 7)
    | _, _, _, _ => none
  | _, _ => none
def askW (x : Lx) (e : Bool) : AskOp → List PV → Option PV
  | .len 9, [.unk 0] => some (.unk 2)
  | .bin .lss _, [.unk k, .unk 2] => match Nat.ble 1000 k && Nat.blt (k - 1000) x.w.length with
    | true => some (Bo true)
    | false => none
  | .bin .lss _, [.unk k, .v (.int .i64 (.ofNat 0))] => match Nat.ble 1000 k && Nat.ble k 1040 with
    | true => some (Bo false)
    | false => none
  | .index 9, [.unk 0, .unk k] => match Nat.ble 1000 k, x.w[k - 1000]? with
    | true, some c => some (U c)
    | _, _ => none
  | .slice 9, [.unk 0, .tup [.unk a], .tup [.unk b]] => match Nat.ble 1000 a && Nat.ble 1000 b with
    | true => cutW x e (a - 1000) (b - 1000)
    | false => none
  | .bin .add _, [.unk k, .v (.int .i64 (.ofNat n))] => match Nat.ble 1000 k && Nat.ble (k + n) 1040 with
    | true => some (.unk (k + n))
    | false => none
  | .bin .sub _, [.unk 2, .unk 1000] => match e with
    | true => some (I x.w.length)
    | false => some (.unk 6)
  | .bin .sub _, [.unk a, .unk b] => match Nat.ble 1000 b && (Nat.ble b a && Nat.ble a 1040) with
    | true => some (I (a - b))
    | false => none
  | .bin .geq _, [.unk 6, .v (.int .i64 (.ofNat n))] => match !e && Nat.ble n (x.w.length + 1) with
    | true => some (Bo true)
    | false => none
  | .bin .eql _, [.unk 7, s] => match headS s, x.w with
    | some c, d :: _ => match Nat.beq c d with
      | true => none
      | false => some (Bo false)
    | _, _ => none
  | .bin .eql _, [.unk 3, .v (.int .u8 (.ofNat 95))] => match x.cls with
    | 1 => some (Bo false)
    | _ => none
  | _, _ => none
def byteQ (f c : Nat) : Option PV := match f with
  | 84 => some (Bo (lowB c))
  | 85 => some (Bo (uppB c))
  | 87 => some (Bo (digB c))
  | _ => none
def orcW (x : Lx) : Orc := fun f ds => match f, ds with
  | 88, [.unk 0, .unk k] => match Nat.ble 1000 k with
    | true => byteW x (k - 1000)
    | false => none
  | f, [.unk 3] => match x.cls with
    | 1 => match byteQ f 0 with
      | some _ => some (Bo false)
      | none => none
    | _ => none
  | f, [.v (.int .u8 (.ofNat c))] => match Nat.blt c 256 with
    | true => byteQ f c
    | false => none
  | _, _ => none
/-- what reading the token comes to -/
def resW (x : Lx) : PV := .tup [.agg [I x.k, x.t, x.n, .unk 1000], .unk (1000 + x.w.length), I 0]
/-- skipping: sp: a space stands there; e: the text ends behind it -/
def askK (sp e : Bool) : AskOp → List PV → Option PV
  | .len 9, [.unk 0] => some (.unk 2)
  | .bin .lss _, [.unk 1000, .unk 2] => some (Bo (sp || !e))
  | .bin .lss _, [.unk 1001, .unk 2] => match sp with
    | true => some (Bo (!e))
    | false => none
  | .index 9, [.unk 0, .unk 1000] => match sp with
    | true => some (U 32)
    | false => match e with
      | true => none
      | false => some (.unk 3)
  | .index 9, [.unk 0, .unk 1001] => match sp && !e with
    | true => some (.unk 3)
    | false => none
  | .bin .add _, [.unk 1000, .v (.int .i64 (.ofNat 1))] => some (.unk 1001)
  | .bin .eql _, [.unk 3, .v (.int .u8 (.ofNat c))] => match Nat.beq c 37 || (Nat.beq c 9 || (Nat.beq c 10 || (Nat.beq c 13 || Nat.beq c 32))) with
    | true => some (Bo false)
    | false => none
  | _, _ => none
def resK (sp : Bool) : PV := match sp with
  | true => .unk 1001
  | false => .unk 1000
end Go.Ev.A
