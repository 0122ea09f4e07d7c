/- One production is read as it should be, for every reader. -/
import Derived.Test.YtmlnfoabpcccnaaGreatEvCb
import Derived.Test.YtmlnfoabpcccnaaGreatEvCc
set_option linter.all false
/- One production is read as it should be, for every reader. -/
namespace Go.Ev.A
open Go.Proofs
section
variable [E : Env]
/-- a production as it stands before a reader, expressions and all -/
structure Whole (e : PE) (it : List It) (fol : Bool) : Prop where
  cl : clean (.sl e.es e.ex) = true
  len : e.es.length ≤ 9223372036854775807
  cap : Cap e.vt
  X : ∀ n, ∀ c ∈ e.X n, formed c
  W : ∀ n, ∀ c ∈ e.W n, formed c
  d : e.d + 2 ≤ 20
  short : it.length < 49
  tok : ∀ m k s n, it[m]? = some (.tok k s n) → .tok k s n ∈ toks ∧ e.es[e.P m]? = some (tokCells e.vt e.vn (e.A m) (.tok k s n)) ∧ e.P (m + 1) = e.P m + 1
  hole : ∀ m, it[m]? = some .hole → Hole e (colonAt fol it[m + 1]?) (twoAt it m) m
  last : ∀ f t args q, atEnd fol f it.length t args = some q → KnownX Tryz.prog f (subL (sp e) (stKey 73 (rd it.length t) args)) (Ev.sub (sp e) q)

theorem Whole.fit {e : PE} {it : List It} {fol : Bool} (H : Whole e it fol) : Fit (sp e) := sp_fit H.cl H.X H.W

theorem orcP_ok {e : PE} {it : List It} {fol : Bool} (H : Whole e it fol) : @OrcOk (E.put (sp e) H.fit.form) Tryz.prog (orcP it fol) := by
  intro f ds q h
  refine KnownX.unsub H.fit ?_
  unfold orcP at h
  split at h
  · rename_i k t args
    cases hk : Nat.ble 1000 k with
    | false => simp [hk] at h
    | true =>
      simp only [hk] at h
      have hk := Nat.le_of_ble_eq_true hk
      obtain ⟨m, rfl⟩ : ∃ m, k = 1000 + m := ⟨k - 1000, by omega⟩
      rw [Nat.add_sub_cancel_left] at h
      cases hm : Nat.beq m it.length with
      | true =>
        simp only [hm] at h
        obtain rfl := Nat.eq_of_beq_eq_true hm
        exact H.last f t args q h
      | false =>
        simp only [hm] at h
        cases hx : it[m]? with
        | none => simp [hx] at h
        | some x =>
          simp only [hx] at h
          have hml : m < it.length := (List.getElem?_eq_some_iff.1 hx).1
          have hs := H.short
          cases x with
          | tok k s n =>
            obtain ⟨h1, h2, h3⟩ := H.tok m k s n hx
            exact orc_tok H.cl H.len H.cap h1 (by omega) h2 h3 h
          | hole => exact orc_hole H.cl H.len (by omega) (H.hole m hx) h
  · cases h

theorem askP_ok {e : PE} {it : List It} {fol : Bool} (H : Whole e it fol) : @AskOk (E.put (sp e) H.fit.form) Tryz.prog (askP it) := by
  have htok := H.tok
  have hs := H.short
  have hl := H.len
  have hd := H.d
  have hcap := H.cap
  have hfit := H.fit
  letI := E.put (sp e) hfit.form
  refine AskOk.of (T := tys) tOk fun o l q h => ?_
  have hr : ∀ n, res (.unk n) = sp e n := fun n => rfl
  unfold askP at h
  split at h
  · rename_i t k
    split at h
    · rename_i hc
      cases h
      simp only [Bool.or_eq_true, Bool.and_eq_true] at hc
      rcases hc with ⟨h1, h2⟩ | ⟨h1, h2⟩
      · have h1 := Nat.le_of_ble_eq_true h1
        obtain ⟨m, rfl⟩ : ∃ m, k = 1000 + m := ⟨k - 1000, by omega⟩
        rw [Nat.add_sub_cancel_left] at h2
        cases hx : it[m]? with
        | none => rw [hx] at h2; cases h2
        | some x => cases x with
          | hole => rw [hx] at h2; cases h2
          | tok k s n =>
            obtain ⟨_, g2, g3⟩ := htok m k s n hx
            have hml : m < it.length := (List.getElem?_eq_some_iff.1 hx).1
            have hp : e.P m < e.es.length := (List.getElem?_eq_some_iff.1 g2).1
            refine ⟨I (e.P m + 1), ?_, Le.unk ?_⟩
            · rw [hr, sp_pos (by omega)]
              exact int_add64 (e.P m) 1 (by omega)
            · show sp e (1000 + m + 1) = _
              rw [show 1000 + m + 1 = 1000 + (m + 1) by omega, sp_pos (by omega), g3]
      · have h1 := Nat.le_of_ble_eq_true h1
        have h2 := Nat.le_of_ble_eq_true h2
        rcases (by omega : k = 4 ∨ k = 5 ∨ k = 6) with rfl | rfl | rfl
        · exact ⟨I (e.d + 1), int_add64 e.d 1 (by omega), Le.unk rfl⟩
        · exact ⟨I (e.d + 2), int_add64 (e.d + 1) 1 (by omega), Le.unk rfl⟩
        · exact ⟨I (e.d + 3), int_add64 (e.d + 2) 1 (by omega), Le.unk rfl⟩
    · cases h
  · rename_i t k
    split at h
    · rename_i hc
      cases h
      simp only [Bool.and_eq_true] at hc
      have h1 := Nat.le_of_ble_eq_true hc.1
      have h2 := Nat.le_of_ble_eq_true hc.2
      have key : ∀ a : Nat, a ≤ 20 → intOp .gtr .i64 .i64 (.ofNat a) (.ofNat 20) = some (Bo false) := by
        intro a ha
        rw [int_gtr]
        have : ileb (.ofNat a) (.ofNat 20) = true := Nat.ble_eq_true_of_le ha
        rw [this]; rfl
      rcases (by omega : k = 4 ∨ k = 5 ∨ k = 6) with rfl | rfl | rfl
      · exact ⟨Bo false, key e.d (by omega), Le.refl _⟩
      · exact ⟨Bo false, key (e.d + 1) (by omega), Le.refl _⟩
      · exact ⟨Bo false, key (e.d + 2) (by omega), Le.refl _⟩
    · cases h
  · rename_i t s
    split at h
    · rename_i hc
      cases h
      obtain ⟨a, b, h1, rfl, h3⟩ := cap_ne hcap hc
      refine ⟨Bo false, ?_, Le.refl _⟩
      show bin tys .eql t (.v e.vt) (.v (.string b)) = _
      rw [h1]
      show strBin .eql a b = _
      simp only [strBin, h3]
    · cases h
  · cases h

theorem parse_prod {e : PE} {it : List It} {fol t : Bool} (H : Whole e it fol) {q : PV} (hq : okP1 it q t fol = true) : KnownS Tryz.prog 26 73 (stA e (e.P 0) t) [I e.d] (Ev.sub (sp e) q) (stA e (e.P it.length) false) := by
  have ha := askP_ok H
  have ho := orcP_ok H
  have hfit := H.fit
  have h := (KnownS.sub (E := E) H.fit (P := Tryz.prog) (f := 26) (ty := 73) (cs := rd 0 t) (ds := [.unk 4]) (q := q) (cs' := rd it.length false)).1 (by
    letI := E.put (sp e) hfit.form
    exact knownS_goes (T := ⟨tysT, askP it⟩) (TOk.asked (T := tys) tOk ha) mixed fnsPOk ho e26ok hq)
  have hs := H.short
  rw [sub_rd (by omega), sub_rd (by omega)] at h
  exact h
end
end Go.Ev.A

/- What a reader finds behind an expression. -/
namespace Go.Ev.A
open Go.Proofs
theorem okP_get : ∀ {l : List (List It)} {qs : List PV}, okP l qs = true → ∀ {i : Nat} {it : List It} {q : PV}, l[i]? = some it → qs[i]? = some q → okP1 it q false false = true ∧ okP1 it q true false = true ∧ okP1 it q true true = true
  | [], [], _, i, it, q, h, _ => by simp at h
  | [], _ :: _, h, _, _, _, _, _ => by simp [okP] at h
  | _ :: _, [], h, _, _, _, _, _ => by simp [okP] at h
  | a :: l, b :: qs, h, i, it, q, h1, h2 => by
    simp only [okP, Bool.and_eq_true] at h
    cases i with
    | zero =>
      simp at h1 h2
      subst h1; subst h2
      exact ⟨h.1, h.2.1, h.2.2.1⟩
    | succ i => exact okP_get h.2.2.2 (by simpa using h1) (by simpa using h2)
/-- no token there -/
def askE : AskOp → List PV → Option PV
  | .len 68, [.unk 0] => some (.unk 900)
  | .bin .lss _, [.unk 1000, .unk 900] => some (Bo false)
  | .bin .add _, [.unk 1000, .v (.int .i64 (.ofNat 0))] => some (.unk 1000)
  | _, _ => none
noncomputable def okE1 (f : Nat) (args : List PV) : Bool := goesF ⟨tysT, askE⟩ fnsM (fun _ _ => none) 10000 (eOf f) 73 (noTail (rd 0 true)) args (Bo false) (noTail (rd 0 true))
theorem eOk : (okE1 57 [parS] && (okE1 96 [I 0, colonS] && okE1 107 [])) = true := by kernel_rfl
section
variable [E : Env]
variable {es : List (List PV)} {ex : Bool} {en p tl vt vn at_ : Value} {pos : Nat} {c1 c2 c3 : Value}
theorem askE_ok (hf : clean (.sl es ex) = true) (hpos : pos = es.length) (hl : es.length ≤ 9223372036854775807) :
    @AskOk (E.put _ (sg_fit (en := en) (p := p) (tl := tl) (vt := vt) (vn := vn) (at_ := at_) (pos := pos) (c1 := c1) (c2 := c2) (c3 := c3) hf).form) Tryz.prog askE := by
  have hσ := sg_fit (en := en) (p := p) (tl := tl) (vt := vt) (vn := vn) (at_ := at_) (pos := pos) (c1 := c1) (c2 := c2) (c3 := c3) hf
  letI := E.put _ hσ.form
  refine AskOk.of (T := tys) tOk fun o l q e => ?_
  unfold askE at e
  split at e
  · cases e
    exact ⟨I es.length, fun hp => rfl, Le.unk rfl⟩
  · cases e
    refine ⟨Bo false, ?_, Le.refl _⟩
    show intOp .lss .i64 .i64 (.ofNat pos) (.ofNat es.length) = _
    rw [int_lss, hpos]
    have : ileb (.ofNat es.length) (.ofNat es.length) = true := Nat.ble_eq_true_of_le (Nat.le_refl _)
    rw [this]; rfl
  · cases e
    exact ⟨I (pos + 0), int_add64 pos 0 (by omega), Le.unk rfl⟩
  · cases e
/-- a question where there is no token -/
theorem ask_end {e : PE} {pos : Nat} {t : Bool} (hf : clean (.sl e.es e.ex) = true) (hpos : pos = e.es.length) (hl : e.es.length ≤ 9223372036854775807) {f : Nat} {args : List PV} (hfm : f ∈ [53, 51, 107, 108, 141, 57, 96])
    (hg : okE1 f args = true) (hcl : cleanL args = true) : KnownS Tryz.prog f 73 (stA e pos t) args (Bo false) (stA e pos t) := by
  have hσ := sg_fit (en := e.en) (p := e.p) (tl := .bool t) (vt := .bool true) (vn := .bool true) (at_ := .bool true) (pos := pos) (c1 := .bool true) (c2 := .bool true) (c3 := .bool true) hf
  have ha := askE_ok (E := E) (en := e.en) (p := e.p) (tl := .bool t) (vt := .bool true) (vn := .bool true) (at_ := .bool true) (c1 := .bool true) (c2 := .bool true) (c3 := .bool true) hf hpos hl
  have h := (KnownS.sub (E := E) hσ (P := Tryz.prog) (f := f) (ty := 73) (cs := noTail (rd 0 true)) (ds := args) (q := Bo false) (cs' := noTail (rd 0 true))).1 (by
    letI := E.put _ hσ.form
    exact knownS_goes (T := ⟨tysT, askE⟩) (TOk.asked (T := tys) tOk ha) mixed fnsMOk orcNone_ok (eOf_ok f hfm) hg)
  rw [subL_clean _ args hcl] at h
  exact h
/-- a colon with a type behind it: typed -/
theorem ask_typed {e : PE} {at_ c1 c2 c3 : Value} {pos : Nat} {t : Bool} (hf : clean (.sl e.es e.ex) = true) (hl : e.es.length ≤ 9223372036854775807) (hV : Cap e.vt)
    (h0 : e.es[pos]? = some [I 6, colonS, I 0, .v at_]) (h1 : e.es[pos + 1]? = some [I 5, .v c1, .v c2, .v c3]) : KnownS Tryz.prog 107 73 (stA e pos t) [] (Bo true) (stA e pos t) := by
  have hσ := sg_fit (en := e.en) (p := e.p) (tl := .bool t) (vt := e.vt) (vn := .bool true) (at_ := at_) (pos := pos) (c1 := c1) (c2 := c2) (c3 := c3) hf
  have ha := askM_ok (E := E) (x := .tok 6 colonS (I 0)) (ty := true) (en := e.en) (p := e.p) (tl := .bool t) (vt := e.vt) (vn := .bool true) (at_ := at_) (c1 := c1) (c2 := c2) (c3 := c3) rfl hf (by rw [h0]; rfl) (fun _ => h1) hl hV
  have h := (KnownS.sub (E := E) hσ (P := Tryz.prog) (f := 107) (ty := 73) (cs := noTail (rd 0 true)) (ds := []) (q := Bo true) (cs' := noTail (rd 0 true))).1 (by
    letI := E.put _ hσ.form
    exact knownS_goes (T := ⟨tysT, askM (.tok 6 colonS (I 0)) true⟩) (TOk.asked (T := tys) tOk ha) mixed fnsMOk orcNone_ok e107ok cOk)
  exact h
end
end Go.Ev.A

/- What stands behind an expression: told rightly. -/
namespace Go.Ev.A
open Go.Proofs
inductive After (e : PE) (fol : Bool) (pos : Nat) : Prop where
  | tok {k : Nat} {s n : PV} {vt vn at_ : Value} : It.tok k s n ∈ toks → Cap vt → e.es[pos]? = some (tokCells vt vn at_ (.tok k s n)) → isT true parS (.tok k s n) = false → isT false colonS (.tok k s n) = false → fol = false → After e fol pos
  | colon {at_ c1 c2 c3 : Value} : e.es[pos]? = some [I 6, colonS, I 0, .v at_] → e.es[pos + 1]? = some [I 5, .v c1, .v c2, .v c3] → fol = true → After e fol pos
  | stop : pos = e.es.length → fol = false → After e fol pos
theorem txt_par {s : PV} (h : txtEq s parS = true) : s = parS := txtEq_eq h
theorem txt_colon {s : PV} (h : txtEq s colonS = true) : s = colonS := txtEq_eq h
theorem colon_tok : It.tok 6 colonS (I 0) ∈ toks := by simp [toks, colonS]
section
variable [E : Env]
theorem after_q {e : PE} {fol : Bool} {pos : Nat} (hf : clean (.sl e.es e.ex) = true) (hl : e.es.length ≤ 9223372036854775807) (hV : Cap e.vt) (A : After e fol pos) (t : Bool) :
    KnownS Tryz.prog 57 73 (stA e pos t) [parS] (Bo false) (stA e pos t) ∧ KnownS Tryz.prog 96 73 (stA e pos t) [I 0, colonS] (Bo fol) (stA e pos t) ∧ KnownS Tryz.prog 107 73 (stA e pos t) [] (Bo fol) (stA e pos t) := by
  have hp : txtIn parS isL = true := rfl
  have hc : txtIn colonS signL = true := rfl
  cases A with
  | tok hx hV' h0 h1 h2 h3 =>
    rename_i k s n vt vn at_
    subst h3
    have q1 := ask_tok (t := t) hf hl hV' hx h0 (f := 57) (args := [parS]) (r := Bo false) (δ := 0) (by simp) (qs57 (txtIn_mem hp)) (by simp only [atIt, hp, same, h1]) (.inl rfl) rfl
    have q2 := ask_tok (t := t) hf hl hV' hx h0 (f := 96) (args := [I 0, colonS]) (r := Bo false) (δ := 0) (by simp) (qs96 (txtIn_mem hc)) (by simp only [atIt, hc, same, h2]) (.inl rfl) rfl
    have q3 := ask_tok (t := t) hf hl hV' hx h0 (f := 107) (args := []) (r := Bo false) (δ := 0) (by simp) (by simp [qs]) (by simp only [atIt, h2, same]) (.inl rfl) rfl
    rw [Nat.add_zero] at q1 q2 q3
    exact ⟨q1, q2, q3⟩
  | colon h0 h1 h3 =>
    rename_i at_ c1 c2 c3
    subst h3
    have h0' : e.es[pos]? = some (tokCells e.vt (.bool true) at_ (.tok 6 colonS (I 0))) := h0
    have q1 := ask_tok (t := t) hf hl hV colon_tok h0' (f := 57) (args := [parS]) (r := Bo false) (δ := 0) (by simp) (qs57 (txtIn_mem hp)) rfl (.inl rfl) rfl
    have q2 := ask_tok (t := t) hf hl hV colon_tok h0' (f := 96) (args := [I 0, colonS]) (r := Bo true) (δ := 0) (by simp) (qs96 (txtIn_mem hc)) rfl (.inl rfl) rfl
    rw [Nat.add_zero] at q1 q2
    exact ⟨q1, q2, ask_typed hf hl hV h0 h1⟩
  | stop h0 h3 =>
    subst h3
    have h := eOk
    simp only [Bool.and_eq_true] at h
    exact ⟨ask_end hf h0 hl (by simp) h.1 rfl, ask_end hf h0 hl (by simp) h.2.1 rfl, ask_end hf h0 hl (by simp) h.2.2 rfl⟩
theorem after_last {e : PE} {fol : Bool} {m : Nat} (hm : m < 1000) (hf : clean (.sl e.es e.ex) = true) (hl : e.es.length ≤ 9223372036854775807) (hV : Cap e.vt) (A : After e fol (e.P m)) {f : Nat} {t : Bool} {args : List PV} {q : PV} (h : atEnd fol f m t args = some q) :
    KnownX Tryz.prog f (subL (sp e) (stKey 73 (rd m t) args)) (Ev.sub (sp e) q) := by
  obtain ⟨q1, q2, q3⟩ := after_q hf hl hV A t
  unfold atEnd at h
  split at h
  · split at h
    · rename_i hs
      obtain rfl := txt_par hs
      simp only [same] at h
      cases h
      exact knownX_of hm hm q1
    · cases h
  · split at h
    · rename_i hs
      obtain rfl := txt_colon hs
      simp only [same] at h
      cases h
      exact knownX_of hm hm q2
    · cases h
  · simp only [same] at h
    cases h
    exact knownX_of hm hm q3
  · cases h
end
end Go.Ev.A

/- The grammar of expressions, as lists of tokens. -/
namespace Go.Ev.A
open Go.Proofs
/-- a token with the name of its variable and its number -/
structure TV where
  x : It
  vt : Value
  vn : Value
/-- a production's tokens, its expressions' tokens in their places -/
def fill (vt vn : Value) (sub : Nat → List TV) : Nat → List It → List TV
  | _, [] => []
  | m, .hole :: r => sub m ++ fill vt vn sub (m + 1) r
  | m, .tok k s n :: r => ⟨.tok k s n, vt, vn⟩ :: fill vt vn sub (m + 1) r
def lev (n : Nat) (it : List It) (m : Nat) : Nat := match twoAt it m with
  | true => n - 1
  | false => n
/-- a number -/
def IntV (v : Value) : Prop := ∃ z, v = .int .i64 z
inductive Gr : Nat → List TV → Prop where
  | mk {n : Nat} {it : List It} {vt vn : Value} {sub : Nat → List TV} : it ∈ prods → Cap vt → IntV vn → (∀ m, it[m]? = some .hole → Gr (lev n it m) (sub m)) → Gr (n + 1) (fill vt vn sub 0 it)
/-- the tokens lie there -/
def Lies (es : List (List PV)) (pos : Nat) (l : List TV) : Prop := ∀ i y, l[i]? = some y → ∃ at_, IntV at_ ∧ es[pos + i]? = some (tokCells y.vt y.vn at_ y.x)
theorem Lies.left {es pos l m} (h : Lies es pos (l ++ m)) : Lies es pos l := fun i y hi => h i y (by rw [List.getElem?_append_left (List.getElem?_eq_some_iff.1 hi).1]; exact hi)
theorem Lies.right {es pos l m} (h : Lies es pos (l ++ m)) : Lies es (pos + l.length) m := fun i y hi => by
  obtain ⟨a, hn, ha⟩ := h (l.length + i) y (by rw [List.getElem?_append_right (by omega), Nat.add_sub_cancel_left]; exact hi)
  exact ⟨a, hn, by rw [Nat.add_assoc]; exact ha⟩
/-- how far the first m items reach -/
def off (sub : Nat → List TV) : Nat → List It → Nat → Nat
  | _, _, 0 => 0
  | _, [], _ + 1 => 0
  | a, .hole :: r, m + 1 => (sub a).length + off sub (a + 1) r m
  | a, .tok _ _ _ :: r, m + 1 => 1 + off sub (a + 1) r m
theorem off_tok {vt vn : Value} {sub : Nat → List TV} {es : List (List PV)} : ∀ {it : List It} {a pos m : Nat} {k : Nat} {s n : PV}, Lies es pos (fill vt vn sub a it) → it[m]? = some (.tok k s n) →
    (∃ at_, IntV at_ ∧ es[pos + off sub a it m]? = some (tokCells vt vn at_ (.tok k s n))) ∧ off sub a it (m + 1) = off sub a it m + 1
  | [], a, pos, m, k, s, n, _, h => by simp at h
  | .tok k0 s0 n0 :: r, a, pos, 0, k, s, n, hl, h => by
    simp at h
    obtain ⟨rfl, rfl, rfl⟩ := h
    refine ⟨hl 0 ⟨.tok k0 s0 n0, vt, vn⟩ rfl, ?_⟩
    cases r <;> rfl
  | .hole :: r, a, pos, 0, k, s, n, hl, h => by simp at h
  | .tok k0 s0 n0 :: r, a, pos, m + 1, k, s, n, hl, h => by
    have hl' : Lies es (pos + 1) (fill vt vn sub (a + 1) r) := Lies.right (l := [⟨.tok k0 s0 n0, vt, vn⟩]) hl
    obtain ⟨⟨at_, hn, h1⟩, h2⟩ := off_tok (m := m) hl' (by simpa using h)
    refine ⟨⟨at_, hn, ?_⟩, ?_⟩
    · show es[pos + (1 + off sub (a + 1) r m)]? = _
      rw [← Nat.add_assoc]; exact h1
    · show 1 + off sub (a + 1) r (m + 1) = 1 + off sub (a + 1) r m + 1
      rw [h2]; omega
  | .hole :: r, a, pos, m + 1, k, s, n, hl, h => by
    have hl' : Lies es (pos + (sub a).length) (fill vt vn sub (a + 1) r) := Lies.right hl
    obtain ⟨⟨at_, hn, h1⟩, h2⟩ := off_tok (m := m) hl' (by simpa using h)
    refine ⟨⟨at_, hn, ?_⟩, ?_⟩
    · show es[pos + ((sub a).length + off sub (a + 1) r m)]? = _
      rw [← Nat.add_assoc]; exact h1
    · show (sub a).length + off sub (a + 1) r (m + 1) = (sub a).length + off sub (a + 1) r m + 1
      rw [h2]; omega
theorem off_hole {vt vn : Value} {sub : Nat → List TV} {es : List (List PV)} : ∀ {it : List It} {a pos m : Nat}, Lies es pos (fill vt vn sub a it) → it[m]? = some .hole →
    Lies es (pos + off sub a it m) (sub (a + m)) ∧ off sub a it (m + 1) = off sub a it m + (sub (a + m)).length
  | [], a, pos, m, _, h => by simp at h
  | .tok k0 s0 n0 :: r, a, pos, 0, hl, h => by simp at h
  | .hole :: r, a, pos, 0, hl, h => by
    refine ⟨Lies.left hl, ?_⟩
    show (sub a).length + off sub (a + 1) r 0 = 0 + (sub (a + 0)).length
    cases r <;> simp [off]
  | .tok k0 s0 n0 :: r, a, pos, m + 1, hl, h => by
    have hl' : Lies es (pos + 1) (fill vt vn sub (a + 1) r) := Lies.right (l := [⟨.tok k0 s0 n0, vt, vn⟩]) hl
    obtain ⟨h1, h2⟩ := off_hole (m := m) hl' (by simpa using h)
    rw [show a + 1 + m = a + (m + 1) by omega] at h1 h2
    refine ⟨?_, ?_⟩
    · show Lies es (pos + (1 + off sub (a + 1) r m)) _
      rw [← Nat.add_assoc]; exact h1
    · show 1 + off sub (a + 1) r (m + 1) = 1 + off sub (a + 1) r m + _
      rw [h2]; omega
  | .hole :: r, a, pos, m + 1, hl, h => by
    have hl' : Lies es (pos + (sub a).length) (fill vt vn sub (a + 1) r) := Lies.right hl
    obtain ⟨h1, h2⟩ := off_hole (m := m) hl' (by simpa using h)
    rw [show a + 1 + m = a + (m + 1) by omega] at h1 h2
    refine ⟨?_, ?_⟩
    · show Lies es (pos + ((sub a).length + off sub (a + 1) r m)) _
      rw [← Nat.add_assoc]; exact h1
    · show (sub a).length + off sub (a + 1) r (m + 1) = (sub a).length + off sub (a + 1) r m + _
      rw [h2]; omega
theorem off_all {vt vn : Value} {sub : Nat → List TV} : ∀ (it : List It) (a : Nat), off sub a it it.length = (fill vt vn sub a it).length
  | [], a => rfl
  | .hole :: r, a => by
    show (sub a).length + off sub (a + 1) r r.length = (sub a ++ fill vt vn sub (a + 1) r).length
    rw [off_all r (a + 1), List.length_append]
  | .tok k s n :: r, a => by
    show 1 + off sub (a + 1) r r.length = (⟨.tok k s n, vt, vn⟩ :: fill vt vn sub (a + 1) r : List TV).length
    rw [off_all r (a + 1), List.length_cons, Nat.add_comm]
end Go.Ev.A

/- What is so of every production. -/
namespace Go.Ev.A
open Go.Proofs
def eqC : PV → PV → Bool
  | .unk a, .unk b => Nat.beq a b
  | .v (.string a), .v (.string b) => bytesEq a.data.toList b.data.toList
  | .v (.int .i64 (.ofNat a)), .v (.int .i64 (.ofNat b)) => Nat.beq a b
  | _, _ => false
theorem eqC_eq {s t : PV} (h : eqC s t = true) : s = t := by
  unfold eqC at h
  split at h
  · rw [Nat.eq_of_beq_eq_true h]
  · exact txtEq_eq h
  · rw [Nat.eq_of_beq_eq_true h]
  · cases h
def eqT : It → It → Bool
  | .tok k s n, .tok k' s' n' => Nat.beq k k' && (eqC s s' && eqC n n')
  | _, _ => false
theorem eqT_eq {x y : It} (h : eqT x y = true) : x = y := by
  unfold eqT at h
  split at h
  · simp only [Bool.and_eq_true] at h
    rw [Nat.eq_of_beq_eq_true h.1, eqC_eq h.2.1, eqC_eq h.2.2]
  · cases h
def firstOk : Option It → Bool
  | some (.tok k s n) => starts (.tok k s n) && neverOk (.tok k s n)
  | _ => false
def typeAt : Option It → Bool
  | some (.tok 5 (.v _) (.v _)) => true
  | _ => false
def behindOk (it : List It) (m : Nat) : Bool := match it[m]? with
  | some .hole => match it[m + 1]? with
    | none => true
    | some .hole => false
    | some (.tok k s n) => !isT true parS (.tok k s n) && match isT false colonS (.tok k s n) with
      | false => true
      | true => eqT (.tok k s n) (.tok 6 colonS (I 0)) && typeAt it[m + 2]?
  | _ => true
def tokIn : It → Bool
  | .hole => true
  | x => toks.any fun y => eqT x y
def prodOk (it : List It) : Bool := firstOk it[0]? && ((List.range it.length).all (behindOk it) && (Nat.blt it.length 49 && it.all tokIn))
theorem prods_ok : prods.all prodOk = true := by kernel_rfl
theorem tokIn_mem {k : Nat} {s n : PV} (h : tokIn (.tok k s n) = true) : It.tok k s n ∈ toks := by
  have h : toks.any (fun y => eqT (.tok k s n) y) = true := h
  obtain ⟨y, hy, he⟩ := List.any_eq_true.1 h
  rw [eqT_eq he]
  exact hy
structure ProdOk (it : List It) : Prop where
  first : firstOk it[0]? = true
  behind : ∀ m, behindOk it m = true
  short : it.length < 49
  tok : ∀ (m k : Nat) (s n : PV), it[m]? = some (It.tok k s n) → It.tok k s n ∈ toks
theorem prod_ok {it : List It} (h : it ∈ prods) : ProdOk it := by
  have h := List.all_eq_true.1 prods_ok it h
  simp only [prodOk, Bool.and_eq_true] at h
  obtain ⟨h1, h2, h3, h4⟩ := h
  refine ⟨h1, fun m => ?_, Nat.le_of_ble_eq_true h3, fun m k s n hm => tokIn_mem (List.all_eq_true.1 h4 _ (List.mem_of_getElem? hm))⟩
  by_cases hm : m < it.length
  · exact List.all_eq_true.1 h2 m (List.mem_range.2 hm)
  · unfold behindOk
    rw [List.getElem?_eq_none (by omega)]
/-- the first token of an expression -/
theorem Gr.first {n : Nat} {ts : List TV} (h : Gr n ts) : ∃ k s m vt vn r, ts = ⟨.tok k s m, vt, vn⟩ :: r ∧ It.tok k s m ∈ toks ∧ starts (.tok k s m) = true ∧ neverOk (.tok k s m) = true ∧ Cap vt := by
  cases h with
  | @mk n it vt vn sub hi hV hN _ =>
    have ho := prod_ok hi
    have hf := ho.first
    rcases it with _ | ⟨x, r⟩
    · cases hf
    · cases x with
      | hole => cases hf
      | tok k s m =>
        have hf : (starts (.tok k s m) && neverOk (.tok k s m)) = true := hf
        simp only [Bool.and_eq_true] at hf
        exact ⟨k, s, m, vt, vn, _, rfl, ho.tok 0 k s m rfl, hf.1, hf.2, hV⟩
end Go.Ev.A

/- Results do not hang on the depth. -/
namespace Go.Ev.A
open Go.Proofs
mutual
def noD : PV → Bool
  | .unk n => !(Nat.ble 4 n && Nat.ble n 9)
  | .agg cs => noDL cs
  | .tup cs => noDL cs
  | .sl es _ => noDE es
  | .ep cs _ => noDL cs
  | .clo _ cs => noDL cs
  | .bnd _ cs => noDL cs
  | _ => true
def noDL : List PV → Bool
  | [] => true
  | c :: cs => noD c && noDL cs
def noDE : List (List PV) → Bool
  | [] => true
  | e :: es => noDL e && noDE es
end
mutual
theorem sub_noD {σ τ : Nat → PV} (h : ∀ n, (Nat.ble 4 n && Nat.ble n 9) = false → σ n = τ n) : ∀ (p : PV), noD p = true → Ev.sub σ p = Ev.sub τ p
  | .unk n, g => by
    simp only [noD, Bool.not_eq_true'] at g
    rw [Ev.sub, Ev.sub, h n g]
  | .agg cs, g => by rw [Ev.sub, Ev.sub, subL_noD h cs (by simpa [noD] using g)]
  | .tup cs, g => by rw [Ev.sub, Ev.sub, subL_noD h cs (by simpa [noD] using g)]
  | .sl es _, g => by rw [Ev.sub, Ev.sub, subE_noD h es (by simpa [noD] using g)]
  | .ep cs _, g => by rw [Ev.sub, Ev.sub, subL_noD h cs (by simpa [noD] using g)]
  | .clo _ cs, g => by rw [Ev.sub, Ev.sub, subL_noD h cs (by simpa [noD] using g)]
  | .bnd _ cs, g => by rw [Ev.sub, Ev.sub, subL_noD h cs (by simpa [noD] using g)]
  | .v _, _ => by rw [Ev.sub, Ev.sub]
  | .row .., _ => by rw [Ev.sub, Ev.sub]
  | .ptr .., _ => by rw [Ev.sub, Ev.sub]
  | .un, _ => by rw [Ev.sub, Ev.sub]
  | .sym _, _ => by rw [Ev.sub, Ev.sub]
  | .mp _, _ => by rw [Ev.sub, Ev.sub]
  | .top, _ => by rw [Ev.sub, Ev.sub]
theorem subL_noD {σ τ : Nat → PV} (h : ∀ n, (Nat.ble 4 n && Nat.ble n 9) = false → σ n = τ n) : ∀ (cs : List PV), noDL cs = true → subL σ cs = subL τ cs
  | [], _ => rfl
  | c :: cs, g => by simp [noDL] at g; rw [subL, subL, sub_noD h c g.1, subL_noD h cs g.2]
theorem subE_noD {σ τ : Nat → PV} (h : ∀ n, (Nat.ble 4 n && Nat.ble n 9) = false → σ n = τ n) : ∀ (es : List (List PV)), noDE es = true → subE σ es = subE τ es
  | [], _ => rfl
  | c :: cs, g => by simp [noDE] at g; rw [subE, subE, subL_noD h c g.1, subE_noD h cs g.2]
end
theorem sp_depth (e : PE) (d : Nat) (n : Nat) (h : (Nat.ble 4 n && Nat.ble n 9) = false) : sp { e with d := d } n = sp e n := by
  unfold sp
  split
  · unfold low
    split <;> first | rfl | (simp at h)
  · rfl
theorem outs_noD : outs.all noD = true := by kernel_rfl
/-- the results are structs of 10 cells -/
def agg10 : PV → Bool
  | .agg cs => Nat.beq cs.length 10
  | _ => false
theorem outs_agg : outs.all agg10 = true := by kernel_rfl
theorem outs_len : outs.length = prods.length := rfl
end Go.Ev.A

/- Every expression of the grammar is read. -/
namespace Go.Ev.A
open Go.Proofs
section
variable [E : Env]
theorem behind_after {e : PE} {fol : Bool} {pos : Nat} {it : List It} {vt vn : Value} {sub : Nat → List TV} (ho : ProdOk it) (hV : Cap vt) (hl : Lies e.es pos (fill vt vn sub 0 it)) (ha : After e fol (pos + (fill vt vn sub 0 it).length))
    {m : Nat} (hm : it[m]? = some .hole) : After e (colonAt fol it[m + 1]?) (pos + off sub 0 it (m + 1)) := by
  have hb := ho.behind m
  unfold behindOk at hb
  rw [hm] at hb
  simp only [] at hb
  cases hx : it[m + 1]? with
  | none =>
    have h1 := (List.getElem?_eq_some_iff.1 hm).1
    have h2 : it.length ≤ m + 1 := List.getElem?_eq_none_iff.1 hx
    have : m + 1 = it.length := by omega
    rw [this, off_all (vt := vt) (vn := vn)]
    exact ha
  | some x => cases x with
    | hole => rw [hx] at hb; cases hb
    | tok k s n =>
      rw [hx] at hb
      simp only [Bool.and_eq_true, Bool.not_eq_true'] at hb
      obtain ⟨hb1, hb2⟩ := hb
      obtain ⟨⟨at_, _, h0⟩, hn⟩ := off_tok hl hx
      cases hc : isT false colonS (.tok k s n) with
      | false => exact After.tok (ho.tok _ _ _ _ hx) hV h0 hb1 hc (by simp [colonAt, hc])
      | true =>
        rw [hc] at hb2
        simp only [Bool.and_eq_true] at hb2
        obtain ⟨h5, h6⟩ := hb2
        have h5 := eqT_eq h5
        cases h5
        unfold typeAt at h6
        split at h6
        · rename_i a b hx2
          obtain ⟨⟨at2, _, h7⟩, _⟩ := off_tok hl hx2
          refine After.colon h0 (c1 := a) (c2 := b) (c3 := at2) ?_ (by simp [colonAt, hc])
          rw [Nat.add_assoc, ← hn]
          exact h7
        · cases h6
end
end Go.Ev.A

/- Every expression of the grammar is read: the induction. -/
namespace Go.Ev.A
open Go.Proofs
def formB : PV → Bool
  | .v _ => true
  | .unk 200 => true
  | .unk 201 => true
  | _ => false
def tokForm : It → Bool
  | .tok _ s n => formB s && formB n
  | .hole => true
theorem toks_form : toks.all tokForm = true := rfl
theorem tc_formed {vt vn : Value} {c : PV} (h : formB c = true) : formed (tc vt vn c) := by
  unfold formB at h
  split at h
  · exact ⟨.inl ⟨_, rfl⟩, rfl⟩
  · exact ⟨.inl ⟨_, rfl⟩, rfl⟩
  · exact ⟨.inl ⟨_, rfl⟩, rfl⟩
  · cases h
theorem tokCells_formed {vt vn at_ : Value} {k : Nat} {s n : PV} (h : .tok k s n ∈ toks) : ∀ c ∈ tokCells vt vn at_ (.tok k s n), formed c := by
  have h := List.all_eq_true.1 toks_form _ h
  simp only [tokForm, Bool.and_eq_true] at h
  intro c hc
  simp only [tokCells, List.mem_cons, List.not_mem_nil, or_false] at hc
  rcases hc with rfl | rfl | rfl | rfl
  · exact ⟨.inl ⟨_, rfl⟩, rfl⟩
  · exact tc_formed h.1
  · exact tc_formed h.2
  · exact ⟨.inl ⟨_, rfl⟩, rfl⟩
/-- an expression's cells: what its production answers, its own expressions in their places -/
inductive Ez : Nat → List PV → Prop where
  | mk {n i : Nat} {it : List It} {qc : List PV} {e : PE} : prods[i]? = some it → outs[i]? = some (.agg qc) → Cap e.vt → IntV e.vn → (∀ m, IntV (e.A m)) → (∀ m, ∃ z, (e.W m).getD 3 (I 0) = .v (.int .i64 z)) → (∀ m, it[m]? = some .hole → (e.X m).length = 10) → (∀ m, it[m]? = some .hole → Ez (lev n it m) (e.X m)) → Ez (n + 1) (subL (sp e) qc)
section
variable [E : Env]
/-- read, wherever and however deep -/
def Reads (e : PE) (n : Nat) (fol : Bool) (pos pos' : Nat) (X : List PV) : Prop := X.length = 10 ∧ (∀ c ∈ X, formed c) ∧ (∀ (d : Nat) (t : Bool), d + n ≤ 19 → (fol = true → t = true) → KnownS Tryz.prog 26 73 (stA e pos t) [I d] (.agg X) (stA e pos' false)) ∧ Ez n X
theorem Gr.whole {n : Nat} {it : List It} {vt vn : Value} {sub : Nat → List TV} (hi : it ∈ prods) (hV : Cap vt) (hN : IntV vn) (hs : ∀ m, it[m]? = some .hole → Gr (lev n it m) (sub m)) {e : PE} {fol : Bool} {pos : Nat}
    (hcl : clean (.sl e.es e.ex) = true) (hlen : e.es.length ≤ 9223372036854775807) (hl : Lies e.es pos (fill vt vn sub 0 it)) (ha : After e fol (pos + (fill vt vn sub 0 it).length))
    (ih : ∀ m, it[m]? = some .hole → ∃ X, Reads e (lev n it m) (colonAt fol it[m + 1]?) (pos + off sub 0 it m) (pos + off sub 0 it (m + 1)) X) :
    ∃ (X : Nat → List PV) (A : Nat → Value) (W : Nat → List PV), (∀ m, it[m]? = some .hole → (X m).length = 10 ∧ Ez (lev n it m) (X m)) ∧ (∀ m, IntV (A m)) ∧ (∀ m, ∃ z, (W m).getD 3 (I 0) = .v (.int .i64 z)) ∧ ∀ d, d + (n + 1) ≤ 19 → Whole ⟨e.es, e.ex, e.en, e.p, d, vt, vn, fun m => pos + off sub 0 it m, X, A, W⟩ it fol := by
  have ho := prod_ok hi
  obtain ⟨A, hA⟩ : ∃ A : Nat → Value, ∀ m, IntV (A m) ∧ ∀ k s n, it[m]? = some (.tok k s n) → e.es[pos + off sub 0 it m]? = some (tokCells vt vn (A m) (.tok k s n)) := by
    have : ∀ m, ∃ a : Value, IntV a ∧ ∀ k s n, it[m]? = some (.tok k s n) → e.es[pos + off sub 0 it m]? = some (tokCells vt vn a (.tok k s n)) := by
      intro m
      cases hx : it[m]? with
      | none => exact ⟨.int .i64 0, ⟨_, rfl⟩, fun k s n h => by cases h⟩
      | some x => cases x with
        | hole => exact ⟨.int .i64 0, ⟨_, rfl⟩, fun k s n h => by cases h⟩
        | tok k s n =>
          obtain ⟨⟨a, ha, h⟩, _⟩ := off_tok hl hx
          exact ⟨a, ha, fun k s n h' => by cases h'; exact h⟩
    exact Classical.axiomOfChoice this
  obtain ⟨X, hX⟩ : ∃ X : Nat → List PV, ∀ m, (∀ c ∈ X m, formed c) ∧ (it[m]? = some .hole → Reads e (lev n it m) (colonAt fol it[m + 1]?) (pos + off sub 0 it m) (pos + off sub 0 it (m + 1)) (X m)) := by
    have : ∀ m, ∃ X : List PV, (∀ c ∈ X, formed c) ∧ (it[m]? = some .hole → Reads e (lev n it m) (colonAt fol it[m + 1]?) (pos + off sub 0 it m) (pos + off sub 0 it (m + 1)) X) := by
      intro m
      by_cases hx : it[m]? = some .hole
      · obtain ⟨X, h⟩ := ih m hx
        exact ⟨X, h.2.1, fun _ => h⟩
      · exact ⟨[], (by simp), fun h => (hx h).elim⟩
    exact Classical.axiomOfChoice this
  obtain ⟨W, hW⟩ : ∃ W : Nat → List PV, ∀ m, ((∀ c ∈ W m, formed c) ∧ ∃ z, (W m).getD 3 (I 0) = .v (.int .i64 z)) ∧ (it[m]? = some .hole → ∃ k s n vt vn at_, It.tok k s n ∈ toks ∧ starts (.tok k s n) = true ∧ neverOk (.tok k s n) = true ∧ Cap vt ∧ e.es[pos + off sub 0 it m]? = some (tokCells vt vn at_ (.tok k s n)) ∧ W m = tokCells vt vn at_ (.tok k s n)) := by
    have : ∀ m, ∃ W : List PV, ((∀ c ∈ W, formed c) ∧ ∃ z, W.getD 3 (I 0) = .v (.int .i64 z)) ∧ (it[m]? = some .hole → ∃ k s n vt vn at_, It.tok k s n ∈ toks ∧ starts (.tok k s n) = true ∧ neverOk (.tok k s n) = true ∧ Cap vt ∧ e.es[pos + off sub 0 it m]? = some (tokCells vt vn at_ (.tok k s n)) ∧ W = tokCells vt vn at_ (.tok k s n)) := by
      intro m
      by_cases hx : it[m]? = some .hole
      · obtain ⟨k, s, n1, vt1, vn1, r, h1, h2, h3, h4, h5⟩ := (hs m hx).first
        obtain ⟨hL, _⟩ := off_hole hl hx
        rw [Nat.zero_add] at hL
        obtain ⟨a, ⟨z, hz⟩, h6⟩ := hL 0 ⟨.tok k s n1, vt1, vn1⟩ (by rw [h1]; rfl)
        exact ⟨_, ⟨tokCells_formed h2, z, by subst hz; rfl⟩, fun _ => ⟨k, s, n1, vt1, vn1, a, h2, h3, h4, h5, h6, rfl⟩⟩
      · exact ⟨[], ⟨(by simp), 0, rfl⟩, fun h => (hx h).elim⟩
    exact Classical.axiomOfChoice this
  refine ⟨X, A, W, fun m h => ⟨((hX m).2 h).1, ((hX m).2 h).2.2.2⟩, fun m => (hA m).1, fun m => (hW m).1.2, fun d hd => ⟨hcl, hlen, hV, fun m => (hX m).1, fun m => (hW m).1.1, (by show d + 2 ≤ 20; omega), ho.short, fun m k s n h => ⟨ho.tok m k s n h, (hA m).2 k s n h, ?_⟩, fun m h => ?_, ?_⟩⟩
  · show pos + off sub 0 it (m + 1) = pos + off sub 0 it m + 1
    rw [(off_tok hl h).2]; rfl
  · obtain ⟨r1, r2, r3, _⟩ := (hX m).2 h
    refine ⟨(hW m).2 h, r1, fun t hc j hj => ?_⟩
    refine r3 (d + j) t ?_ hc
    rcases hj with rfl | ⟨hw, rfl⟩
    · unfold lev; split <;> omega
    · unfold lev
      rw [hw]
      have : 1 ≤ n := by
        have hg := hs m h
        unfold lev at hg
        rw [hw] at hg
        cases n with
        | zero => exact nomatch hg
        | succ n => omega
      simp only []
      omega
  · intro f t args q hq
    refine after_last (e := ⟨e.es, e.ex, e.en, e.p, d, vt, vn, fun m => pos + off sub 0 it m, X, A, W⟩) (by have := ho.short; omega) hcl hlen hV ?_ hq
    have : After e fol (pos + off sub 0 it it.length) := by rw [off_all (vt := vt) (vn := vn)]; exact ha
    cases this with
    | tok h1 h2 h3 h4 h5 h6 => exact .tok h1 h2 h3 h4 h5 h6
    | colon h1 h2 h3 => exact .colon h1 h2 h3
    | stop h1 h2 => exact .stop h1 h2
end
end Go.Ev.A

/- Every expression of the grammar is read. -/
namespace Go.Ev.A
open Go.Proofs
mutual
theorem clean_sub' {σ : Nat → PV} (h : ∀ n, clean (σ n) = true) : ∀ (p : PV), clean (Ev.sub σ p) = true
  | .unk n => by rw [Ev.sub]; exact h n
  | .agg cs => by rw [Ev.sub]; simp only [clean]; exact clean_subL h cs
  | .tup cs => by rw [Ev.sub]; simp only [clean]; exact clean_subL h cs
  | .sl es _ => by rw [Ev.sub]; simp only [clean]; exact clean_subE h es
  | .ep cs _ => by rw [Ev.sub]; simp only [clean]; exact clean_subL h cs
  | .clo _ cs => by rw [Ev.sub]; simp only [clean]; exact clean_subL h cs
  | .bnd _ cs => by rw [Ev.sub]; simp only [clean]; exact clean_subL h cs
  | .v _ => by rw [Ev.sub]; rfl
  | .row .. => by rw [Ev.sub]; rfl
  | .ptr .. => by rw [Ev.sub]; rfl
  | .un => by rw [Ev.sub]; rfl
  | .sym _ => by rw [Ev.sub]; rfl
  | .mp _ => by rw [Ev.sub]; rfl
  | .top => by rw [Ev.sub]; rfl
theorem clean_subL {σ : Nat → PV} (h : ∀ n, clean (σ n) = true) : ∀ (cs : List PV), cleanL (subL σ cs) = true
  | [] => rfl
  | c :: cs => by rw [subL]; simp only [cleanL, Bool.and_eq_true]; exact ⟨clean_sub' h c, clean_subL h cs⟩
theorem clean_subE {σ : Nat → PV} (h : ∀ n, clean (σ n) = true) : ∀ (es : List (List PV)), cleanE (subE σ es) = true
  | [] => rfl
  | c :: cs => by rw [subE]; simp only [cleanE, Bool.and_eq_true]; exact ⟨clean_subL h c, clean_subE h cs⟩
end
def cellForm : PV → Bool
  | .v _ => true
  | .unk _ => true
  | .sl _ _ => true
  | _ => false
def aggForm : PV → Bool
  | .agg cs => cs.all cellForm
  | _ => false
theorem outs_form : outs.all aggForm = true := by kernel_rfl
theorem sub_formed {σ : Nat → PV} (hσ : Fit σ) {c : PV} (h : cellForm c = true) : formed (Ev.sub σ c) := by
  refine ⟨?_, clean_sub' hσ.clean c⟩
  cases c <;> simp only [cellForm] at h <;> try (cases h; done)
  · rw [Ev.sub]; exact .inl ⟨_, rfl⟩
  · rw [Ev.sub]; exact .inr ⟨_, _, rfl⟩
  · rw [Ev.sub]; exact hσ.form _
section
variable [E : Env]
theorem Gr.reads {n : Nat} {ts : List TV} (h : Gr n ts) : n ≤ 19 → ∀ (e : PE) (fol : Bool) (pos : Nat), clean (.sl e.es e.ex) = true → e.es.length ≤ 9223372036854775807 → Lies e.es pos ts → After e fol (pos + ts.length) → ∃ X, Reads e n fol pos (pos + ts.length) X := by
  induction h with
  | @mk n it vt vn sub hi hV hN hs ih =>
    intro hn e fol pos hcl hlen hl ha
    have ho := prod_ok hi
    obtain ⟨X, A, W, hE, hI, hW3, hw⟩ := Gr.whole hi hV hN hs hcl hlen hl ha (fun m hm => by
      obtain ⟨h1, h2⟩ := off_hole hl hm
      rw [Nat.zero_add] at h1 h2
      have hb := behind_after ho hV hl ha hm
      obtain ⟨X, h⟩ := ih m hm (by unfold lev; split <;> omega) e _ _ hcl hlen h1 (by rw [Nat.add_assoc, ← h2]; exact hb)
      exact ⟨X, by rw [h2, ← Nat.add_assoc]; exact h⟩)
    obtain ⟨i, hit⟩ := List.getElem?_of_mem hi
    have hil : i < outs.length := by rw [outs_len]; exact (List.getElem?_eq_some_iff.1 hit).1
    obtain ⟨q, hq⟩ : ∃ q, outs[i]? = some q := ⟨outs[i], List.getElem?_eq_getElem hil⟩
    have hqm := List.mem_of_getElem? hq
    obtain ⟨k1, k2, k3⟩ := okP_get pOk hit hq
    have f1 := List.all_eq_true.1 outs_noD q hqm
    have f2 := List.all_eq_true.1 outs_agg q hqm
    have f3 := List.all_eq_true.1 outs_form q hqm
    cases q with
    | agg qc =>
      let e' (d : Nat) : PE := ⟨e.es, e.ex, e.en, e.p, d, vt, vn, fun m => pos + off sub 0 it m, X, A, W⟩
      by_cases h0 : 0 + (n + 1) ≤ 19
      · have hfit := (hw 0 h0).fit
        refine ⟨subL (sp (e' 0)) qc, ?_, ?_, ?_, Ez.mk (e := e' 0) hit hq hV hN hI hW3 (fun m h => (hE m h).1) (fun m h => (hE m h).2)⟩
        · rw [subL_len]; exact Nat.eq_of_beq_eq_true f2
        · intro c hc
          obtain ⟨j, hj⟩ := List.getElem?_of_mem hc
          rw [subL_get] at hj
          obtain ⟨c0, hc0, rfl⟩ := Option.map_eq_some_iff.1 hj
          exact sub_formed hfit (List.all_eq_true.1 f3 c0 (List.mem_of_getElem? hc0))
        · intro d t hd hft
          have hok : okP1 it (.agg qc) t fol = true := by
            cases fol with
            | false => cases t with
              | false => exact k1
              | true => exact k2
            | true => rw [hft rfl]; exact k3
          have h := parse_prod (hw d hd) hok
          have he : Ev.sub (sp (e' d)) (.agg qc) = .agg (subL (sp (e' 0)) qc) := by
            rw [← Ev.sub]
            exact sub_noD (fun n hn => sp_depth (e' 0) d n hn) _ f1
          have h1 : pos + off sub 0 it 0 = pos := by cases it <;> rfl
          have h2 : pos + off sub 0 it it.length = pos + (fill vt vn sub 0 it).length := by rw [off_all (vt := vt) (vn := vn)]
          rw [show Ev.sub (sp _) (.agg qc) = .agg (subL (sp (e' 0)) qc) from he] at h
          rw [← h2]
          have h3 : KnownS Tryz.prog 26 73 (stA e (pos + off sub 0 it 0) t) [I d] (.agg (subL (sp (e' 0)) qc)) (stA e (pos + off sub 0 it it.length) false) := h
          rw [h1] at h3
          exact h3
      · exact absurd hn (by omega)
    | _ => cases f2
end
end Go.Ev.A
