/- Scan: a text's tokens. -/
import Derived.Test.YtmlnfoabpcccnaaGreatEvCh
import Derived.Test.YtmlnfoabpcccnaaGreatEvCe
set_option linter.all false
/- Scan: a text's tokens. -/
namespace Go.Ev.A
open Go.Proofs
structure Itm where
  y : TV
  x : Lx
  sp : List UInt8
def txtI : List Itm → List UInt8
  | [] => []
  | a :: r => a.sp ++ (bts a.x.w ++ txtI r)
inductive Its : List Itm → UInt8 → Prop where
  | nil {b : UInt8} : Its [] b
  | cons {a : Itm} {r : List Itm} {b : UInt8} : a.x ∈ lexs → (∀ at_, tokCells a.y.vt a.y.vn at_ a.y.x = [I a.x.k, a.x.t, a.x.n, .v at_]) → (a.sp = [] ∨ a.sp = [32]) → aft a.x.cls ((txtI r).headD b) = true → Its r b → Its (a :: r) b
theorem Sp.its {ts : List TV} {l : List UInt8} {b : UInt8} (h : Sp ts l b) : ∃ its : List Itm, its.map (·.y) = ts ∧ txtI its = l ∧ Its its b := by
  induction h with
  | nil => exact ⟨[], rfl, rfl, .nil⟩
  | @cons y x sp s ts b h1 h2 h3 h4 h5 ih =>
    obtain ⟨its, rfl, rfl, h⟩ := ih
    exact ⟨⟨y, x, sp⟩ :: its, rfl, rfl, .cons h1 h2 h3 h4 h⟩
/-- the tokens, with their places -/
def toksI : List Itm → Nat → List (List PV)
  | [], _ => []
  | a :: r, p => [I a.x.k, a.x.t, a.x.n, I (p + a.sp.length)] :: toksI r (p + a.sp.length + a.x.w.length)
def t49 : List Itm → Nat → Nat → Option PV
  | [], b, i => if i = b then some (I b) else none
  | a :: r, b, i => if i = b then some (I (b + a.sp.length)) else t49 r (b + a.sp.length + a.x.w.length) i
def t50 : List Itm → Nat → Nat → Option PV
  | [], _, _ => none
  | a :: r, b, i => if i = b + a.sp.length then some (.tup [.agg [I a.x.k, a.x.t, a.x.n, I i], I (i + a.x.w.length), I 0]) else t50 r (b + a.sp.length + a.x.w.length) i
def orcS (its : List Itm) (L : List UInt8) : Orc := fun f ds => match f, ds with
  | 49, [.v (.string s), .v (.int .i64 (.ofNat i))] => if s.data.toList = L then t49 its 0 i else none
  | 50, [.v (.string s), .v (.int .i64 (.ofNat i))] => if s.data.toList = L then t50 its 0 i else none
  | _, _ => none
def sepB (x : Lx) : Bool := match x.w with
  | [] => false
  | c :: _ => !(Nat.beq (UInt8.ofNat c).toNat 37 || (Nat.beq (UInt8.ofNat c).toNat 9 || (Nat.beq (UInt8.ofNat c).toNat 10 || (Nat.beq (UInt8.ofNat c).toNat 13 || Nat.beq (UInt8.ofNat c).toNat 32))))
theorem lexs_sep : lexs.all sepB = true := by kernel_rfl
theorem lex_sep {x : Lx} (h : x ∈ lexs) {f : UInt8} {r s : List UInt8} (he : bts x.w ++ s = f :: r) : f.toNat ≠ 37 ∧ f.toNat ≠ 9 ∧ f.toNat ≠ 10 ∧ f.toNat ≠ 13 ∧ f.toNat ≠ 32 := by
  have h := List.all_eq_true.1 lexs_sep _ h
  unfold sepB at h
  split at h
  · cases h
  · rename_i c w e
    rw [e] at he
    have : UInt8.ofNat c = f := by simp [bts] at he; exact he.1
    subst this
    simp only [Bool.not_eq_true', Bool.or_eq_false_iff] at h
    refine ⟨?_, ?_, ?_, ?_, ?_⟩ <;> intro e <;> rw [e] at h <;> simp at h
theorem lex_pos {x : Lx} (h : x ∈ lexs) : 0 < x.w.length := by
  obtain ⟨c, r, e, _⟩ := lex_first h
  have : (bts x.w).length = x.w.length := List.length_map ..
  rw [e] at this
  simp at this; omega
theorem bts_len (w : List Nat) : (bts w).length = w.length := List.length_map ..
section
variable [E : Env]
theorem t49_ok {L : List UInt8} (hL : L.length ≤ 4000) : ∀ {its : List Itm} {pre : List UInt8} {i : Nat} {q : PV}, Its its 0 → L = pre ++ txtI its → t49 its pre.length i = some q → Known Tryz.prog 49 [Str L, I i] q
  | [], pre, i, q, _, he, h => by
    unfold t49 at h
    split at h
    · rename_i hi
      cases h
      subst hi
      have := skip_known (pre := pre) (sp := []) (rest := []) (.inl rfl) (fun f r e => by cases e) (by rw [he] at hL; exact hL)
      rw [he]
      exact this
    · cases h
  | a :: r, pre, i, q, .cons h1 h2 h3 h4 h5, he, h => by
    unfold t49 at h
    split at h
    · rename_i hi
      cases h
      subst hi
      rw [he]
      exact skip_known h3 (fun f r e => lex_sep h1 e) (by rw [he] at hL; exact hL)
    · have := t49_ok hL (its := r) (pre := pre ++ (a.sp ++ bts a.x.w)) (i := i) (q := q) h5 (by rw [he]; simp [txtI]) (by
        rw [show (pre ++ (a.sp ++ bts a.x.w)).length = pre.length + a.sp.length + a.x.w.length by simp [bts_len]; omega]
        exact h)
      exact this
theorem t50_ok {L : List UInt8} (hL : L.length ≤ 4000) : ∀ {its : List Itm} {pre : List UInt8} {i : Nat} {q : PV}, Its its 0 → L = pre ++ txtI its → t50 its pre.length i = some q → Known Tryz.prog 50 [Str L, I i] q
  | [], pre, i, q, _, he, h => by cases h
  | a :: r, pre, i, q, .cons h1 h2 h3 h4 h5, he, h => by
    unfold t50 at h
    split at h
    · rename_i hi
      cases h
      have e : L = (pre ++ a.sp) ++ (bts a.x.w ++ txtI r) := by rw [he]; simp [txtI]
      have hp : (pre ++ a.sp).length = i := by rw [hi]; simp
      have := one_known h1 (pre := pre ++ a.sp) (rest := txtI r) h4 (by rw [← e]; exact hL)
      rw [← e, hp] at this
      exact this
    · have := t50_ok hL (its := r) (pre := pre ++ (a.sp ++ bts a.x.w)) (i := i) (q := q) h5 (by rw [he]; simp [txtI]) (by
        rw [show (pre ++ (a.sp ++ bts a.x.w)).length = pre.length + a.sp.length + a.x.w.length by simp [bts_len]; omega]
        exact h)
      exact this
theorem orcS_ok {its : List Itm} {L : List UInt8} (hL : L.length ≤ 4000) (h : Its its 0) (he : L = txtI its) : OrcOk Tryz.prog (orcS its L) := by
  intro f ds q hq
  unfold orcS at hq
  split at hq
  · rename_i s i
    split at hq
    · rename_i hs
      obtain ⟨⟨s⟩⟩ := s
      have hs : s = L := hs
      subst hs
      exact t49_ok hL (pre := []) h he hq
    · cases hq
  · rename_i s i
    split at hq
    · rename_i hs
      obtain ⟨⟨s⟩⟩ := s
      have hs : s = L := hs
      subst hs
      exact t50_ok hL (pre := []) h he hq
    · cases hq
  · cases hq
end
end Go.Ev.A

/- Scan: the walk. -/
namespace Go.Ev
open Go.Proofs
open A (Itm Its toksI t49 t50 orcS txtI Str bts Lx)
variable {R : Type}
theorem sl68 : SlT tys 68 103 4 40 := ⟨⟨y68, y103, rfl, rfl, rfl, rfl, rfl, rfl, rfl⟩, by decide, by decide⟩
theorem alloc103 (hp : Hp) : primAlloc tys hp 103 = some (.ptr hp.next 0, hp.new ⟨[i 0, sb [], i 0, i 0], 4, false, 0, 103⟩) := _root_.id rfl
theorem store103 {hp : Hp} {a : Nat} {c0 c1 c2 c3 u0 u1 u2 u3 : PV} (h : hp.get a = some ⟨[c0, c1, c2, c3], 4, false, 0, 103⟩) : primStore tys hp 103 (some (.ptr a 0)) (some (.agg [u0, u1, u2, u3])) = some (.un, hp.put a ⟨[u0, u1, u2, u3], 4, false, 0, 103⟩) := by
  show stored (match hp.get a with | none => none | some b => match sizeT tys 103 with | none => none | some sz => match pvCells (.agg [u0, u1, u2, u3]) with | none => none | some xs => storeIn hp a 0 b xs sz) = _
  rw [h]
  rfl
theorem loadAt103 {hp : Hp} {a : Nat} {u0 u1 u2 u3 : PV} (h : hp.get a = some ⟨[u0, u1, u2, u3], 4, false, 0, 103⟩) : primLoad tys hp 103 (some (.ptr a 0)) = some (.agg [u0, u1, u2, u3], hp) := by
  show ret1 hp (match hp.get a with | none => none | some b => partOf tys 103 b.cells 0) = _
  rw [h]
  rfl
theorem mk68 (hp : Hp) (a b c d : PV) : primBuildSlice tys hp 68 1 (some [(0, .agg [a, b, c, d])]) = some (.row hp.next 0 1 1 4, hp.new ⟨[a, b, c, d], 4, false, 0, 103⟩) := _root_.id rfl
theorem put_new (hp : Hp) (b b' : Blk) : ((hp.new b).put hp.next b').get hp.next = some b' := get_put _ _ _ _ (get_new_next hp b)
theorem get_put_ne (hp : Hp) {id j : Nat} (b : Blk) (h : j ≠ id) : (hp.put id b).get j = hp.get j := by
  show Al.get (Al.set hp.blks id _) j = Al.get hp.blks j
  rw [Al.get_set', if_neg h]
theorem AccS.over {ty sz : Nat} {hp : Hp} {x : PV} {es : List (List PV)} (h : AccS ty sz hp x es) {hp' : Hp} (hn : hp.next ≤ hp'.next) (hg : ∀ j, j < hp.next → hp'.get j = hp.get j) : AccS ty sz hp' x es := by
  refine ⟨h.1, ?_⟩
  rcases h.2 with h | ⟨id, h1, h2, h3⟩
  · exact .inl h
  · exact .inr ⟨id, h1, by omega, by rw [hg id h2]; exact h3⟩
theorem ask49 {its : List Itm} {L : List UInt8} {n : Nat} {p : Nat} {q : PV} {hp : Hp} {k : PV → Hp → Option R} (h : t49 its 0 p = some q) : callF tys .lf (orcS its L) (run tys .lf (orcS its L) n) 49 [Str L, i p] hp k = k q hp :=
  call_asked (FT := .lf) rfl rfl (by show (if L = L then t49 its 0 p else none) = _; rw [if_pos rfl]; exact h)
theorem ask50 {its : List Itm} {L : List UInt8} {n : Nat} {p : Nat} {q : PV} {hp : Hp} {k : PV → Hp → Option R} (h : t50 its 0 p = some q) : callF tys .lf (orcS its L) (run tys .lf (orcS its L) n) 50 [Str L, i p] hp k = k q hp :=
  call_asked (FT := .lf) rfl rfl (by show (if L = L then t50 its 0 p else none) = _; rw [if_pos rfl]; exact h)
theorem ext0 (hp : Hp) (a b c : PV) : primExtract hp 0 (some (.tup [a, b, c])) = some (a, hp) := _root_.id rfl
theorem ext1 (hp : Hp) (a b c : PV) : primExtract hp 1 (some (.tup [a, b, c])) = some (b, hp) := _root_.id rfl
theorem ext2 (hp : Hp) (a b c : PV) : primExtract hp 2 (some (.tup [a, b, c])) = some (c, hp) := _root_.id rfl
theorem lenL9 (hp : Hp) (L : List UInt8) : primLen tys hp 9 (some (Str L)) = some (i L.length, hp) := _root_.id rfl
/-- the place behind the spaces ahead of the items -/
def ahead : List Itm → Nat → Nat
  | [], p => p
  | a :: _, p => p + a.sp.length
theorem ahead_nil (p : Nat) : ahead [] p = p := _root_.id rfl
theorem ahead_cons (a : Itm) (r : List Itm) (p : Nat) : ahead (a :: r) p = p + a.sp.length := _root_.id rfl
theorem loop25 (its0 : List Itm) (L : List UInt8) : ∀ (its : List Itm) (n pre : Nat) (x : PV) (hp : Hp) (es : List (List PV)), Its its 0 → pre + (txtI its).length = L.length → L.length ≤ 4000 → es.length ≤ pre → AccS 103 4 hp x es →
    (∀ j, pre ≤ j → t49 its0 0 j = t49 its pre j) → (∀ j, pre ≤ j → t50 its0 0 j = t50 its pre j) →
    ∃ hp' x', (∀ k : Ex → St → Option R, evC tys e25 l25_0 (callF tys .lf (orcS its0 L) (run tys .lf (orcS its0 L) (n + its.length))) (run tys .lf (orcS its0 L) (n + its.length)) ⟨[(0, Str L), (5, x), (6, i (ahead its pre))], hp⟩ k =
      k (.exit 0) ⟨[(0, Str L), (5, x'), (6, i L.length), (18, .v (.bool false))], hp'⟩) ∧ AccS 103 4 hp' x' (es ++ toksI its pre) := by
  intro its
  induction its with
  | nil =>
    intro n pre x hp es _ hlen hL hes ha h49 h50
    have hp0 : pre = L.length := by simpa [txtI] using hlen
    subst hp0
    refine ⟨hp, x, fun k => ?_, by simpa [toksI] using ha⟩
    simp only [l25_0_eq, ev_loop, ev_seq, r25_5a, lenL9, ahead_nil, primBin_eq, bin_int, int_lss, ofNat_ble, Nat.ble_eq_true_of_le (Nat.le_refl _), Bool.not_true, ret1_some', bP_some, seqK_normal, ev_cond, opd_tmp, alget, Nat.reduceEqDiff, reduceIte, bB_false, ev_exit, seqK_exit]
  | cons a r ih =>
    intro n pre x hp es hI hlen hL hes ha h49 h50
    cases hI with
    | cons g1 g2 g3 g4 g5 =>
    have hw := A.lex_pos g1
    have hlen' : pre + (a.sp.length + (a.x.w.length + (txtI r).length)) = L.length := by
      simpa [txtI, A.bts_len] using hlen
    have hlt : Nat.ble L.length (pre + a.sp.length) = false := by rw [Bool.eq_false_iff]; intro e; have := Nat.le_of_ble_eq_true e; omega
    have c50 : t50 its0 0 (pre + a.sp.length) = some (.tup [.agg [i a.x.k, a.x.t, a.x.n, i (pre + a.sp.length)], i (pre + a.sp.length + a.x.w.length), i 0]) := by
      rw [h50 _ (by omega)]
      unfold t50
      rw [if_pos rfl]
    have g50 : ∀ j, pre + a.sp.length + a.x.w.length ≤ j → t50 its0 0 j = t50 r (pre + a.sp.length + a.x.w.length) j := fun j hj => by
      rw [h50 j (by omega)]
      conv => lhs; unfold t50
      rw [if_neg (by omega)]
    have g49 : ∀ j, pre + a.sp.length + a.x.w.length ≤ j → t49 its0 0 j = t49 r (pre + a.sp.length + a.x.w.length) j := fun j hj => by
      rw [h49 j (by omega)]
      conv => lhs; unfold t49
      rw [if_neg (by omega)]
    have c49 : t49 its0 0 (pre + a.sp.length + a.x.w.length) = some (i (ahead r (pre + a.sp.length + a.x.w.length))) := by
      rw [g49 _ (Nat.le_refl _)]
      cases r with
      | nil => unfold t49; rw [if_pos rfl]; rfl
      | cons b r => unfold t49; rw [if_pos rfl]; rfl
    generalize hb : pre + a.sp.length = p1 at *
    -- the box of the token
    obtain ⟨hp2, st1, ld1, hnx, hold⟩ : ∃ hp2, primStore tys (hp.new ⟨[i 0, sb [], i 0, i 0], 4, false, 0, 103⟩) 103 (some (.ptr hp.next 0)) (some (.agg [i a.x.k, a.x.t, a.x.n, i p1])) = some (.un, hp2) ∧
        primLoad tys hp2 103 (some (.ptr hp.next 0)) = some (.agg [i a.x.k, a.x.t, a.x.n, i p1], hp2) ∧ hp.next ≤ hp2.next ∧ ∀ j, j < hp.next → hp2.get j = hp.get j :=
      ⟨_, store103 (get_new_next _ _), loadAt103 (put_new _ _ _), by show hp.next ≤ hp.next + 1; omega, fun j hj => by rw [get_put_ne _ _ (by omega), get_new_ne _ _ (by omega)]⟩
    have ha2 : AccS 103 4 hp2 x es := ha.over hnx hold
    obtain ⟨x1, hp3, h1, h2, h3, _⟩ := ha2.app (ty0 := 103) sl68 (e := [i a.x.k, a.x.t, a.x.n, i p1]) rfl (by omega)
    obtain ⟨hp4, x2, k1, k2⟩ := ih n (p1 + a.x.w.length) x1 hp3 _ g5 (by omega) hL (by simp; omega) h2 g49 g50
    refine ⟨hp4, x2, fun k => ?_, by rw [toksI, hb]; simpa using k2⟩
    have mk1 := mk68 hp2 (i a.x.k) a.x.t a.x.n (i p1)
    simp only [l25_0_eq, ev_loop, ev_seq, r25_5a, lenL9, ahead_cons, hb, primBin_eq, bin_int, int_lss, ofNat_ble, hlt, Bool.not_false, ret1_some', bP_some, seqK_normal, ev_cond, opd_tmp, alget, Nat.reduceEqDiff, reduceIte, bB_true, ev_skip, ev_block,
      r25_7a, ask50 c50, ext0, ext1, ext2, alloc103, st1, r25_8a, int_neq, show ieqb (.ofNat 0) (.ofNat 0) = true from rfl, Bool.not_true, bB_false, r25_10a, ld1, mk1, prim2, h1, r25_11a, blockK_normal, r25_6a, ask49 c49]
    rw [show n + (a :: r).length = n + r.length + 1 from _root_.id rfl, run_succ]
    simp only [l25_0_eq] at k1
    exact k1 k
end Go.Ev

/- Scan: known. -/
namespace Go.Ev
open Go.Proofs
open A (Itm Its toksI t49 t50 orcS txtI Str bts Lx)
theorem known_runD [Env] {P : Program} {T : Types} (hT : TOk P T) (hm : P.follows .mixedOrders = true) {FT : Fns} (hF : FTOk P FT) {O : Orc} (hO : OrcOk P O) {f : Nat} {fi : FI} (hf : FIOk P f fi) {n : Nat} {ds : List PV} {p q : PV} {h h2 : Hp}
    (g : ∀ k : PV → Hp → Option PV, bodyF T fi (run T FT O n) ds ⟨[], 0, []⟩ k = k p h) (hq : freeze deepN h p = some (q, h2)) : Known P f ds q := by
  have hr := run_sound (R := PV) (.un : PV) hT (drawSound (R := PV) .un hT hm) hF hO n
  have hu := run_uni (T := T) (R := PV) FT O n
  obtain ⟨h1, h2'⟩ := bodyF_sound' (.un : PV) hT hu hr ⟨hf.1, hf.2.1, hf.2.2.1⟩ g
  refine ⟨h1, fun w F args hF1 hv => ?_⟩
  refine Calls.mono (h2' w F noMap args (HS.empty 0 hF1) hv) ?_
  rintro e w' ⟨v, F', M', rfl, k1, k2, k3⟩
  obtain ⟨F2, m1, m2, m3⟩ := freeze_sound deepN h p q h2 hq F' v k2 k1
  have hx : Ext w w' F F2 noMap M' := k3.trans m2
  have hx' : Ext w w' F F2 noMap noMap := ⟨hx.os, hx.tape, hx.output, hx.size, hx.keep, hx.cell, fun _ _ h => h, hx.mF, fun _ _ h => .inl h, hx.newF⟩
  exact ⟨v, F2, rfl, m3, m1.fw, hx'⟩
/-- cells that are values of their own already -/
def Still (c : PV) : Prop := ∀ n hp, freeze (n + 1) hp c = some (c, hp)
theorem still_v (x : Value) : Still (.v x) := fun _ _ => rfl
theorem still_sl (es : List (List PV)) (ex : Bool) : Still (.sl es ex) := fun _ _ => rfl
theorem freezeL_still : ∀ (l : List PV) (n : Nat) (hp : Hp), (∀ c ∈ l, Still c) → l.length ≤ n → freezeL (n + 1) hp l = some (l, hp)
  | [], n, hp, _, _ => rfl
  | c :: l, n, hp, h, hl => by
    cases n with
    | zero => simp at hl
    | succ n =>
      show (match freeze (n + 1) hp c with | none => none | some (y, h) => match freezeL (n + 1) h l with | none => none | some (ys, h') => some (y :: ys, h')) = _
      rw [h c (by simp) n hp]
      simp only []
      rw [freezeL_still l n hp (fun c hc => h c (by simp [hc])) (by simpa using hl)]
theorem takeN_app {α : Type} : ∀ (e r : List α), takeN (e ++ r) e.length = some e
  | [], r => by cases r <;> rfl
  | x :: e, r => by
    show (match takeN (e ++ r) e.length with | none => none | some l => some (x :: l)) = _
    rw [takeN_app e r]
theorem group_flatten {sz : Nat} : ∀ (es : List (List PV)), (∀ e ∈ es, e.length = sz) → group sz es.length es.flatten = some es
  | [], _ => rfl
  | e :: es, h => by
    have he := h e (by simp)
    show (match takeN (e ++ es.flatten) sz with | none => none | some e' => match group sz es.length ((e ++ es.flatten).drop sz) with | none => none | some r => some (e' :: r)) = _
    rw [← he, takeN_app]
    simp only [List.drop_left]
    rw [he, group_flatten es (fun e h' => h e (by simp [h']))]
theorem AccS.frz {ty sz : Nat} {hp : Hp} {x : PV} {es : List (List PV)} (h : AccS ty sz hp x es) (hs : ∀ e ∈ es, ∀ c ∈ e, Still c) (n : Nat) (hl : es.flatten.length ≤ n) (hne : es ≠ []) :
    ∃ hp', freeze (n + 2) hp x = some (.sl es false, hp') := by
  obtain ⟨hsz, ⟨_, e0⟩ | ⟨id, rfl, hid, hg⟩⟩ := h
  · exact absurd e0 hne
  · have hlen := flatten_len hsz
    have hs1 : 0 < es.length := by cases es with | nil => exact absurd rfl hne | cons _ _ => simp
    refine ⟨hp.put id ⟨es.flatten, sz, true, Nat.max 0 (0 + es.length * sz), ty⟩, ?_⟩
    show (match hp.get id with
      | none => none
      | some b => match cut b.cells 0 (es.length * b.sz) with
        | none => none
        | some cs => match freezeL (n + 1) (hp.put id ⟨b.cells, b.sz, b.loose, Nat.max b.frz (0 + es.length * b.sz), b.ty⟩) cs with
          | none => none
          | some (l, h) => match group b.sz es.length l with
            | none => none
            | some es' => some (PV.sl es' (Nat.beq es.length es.length && (!b.loose || Nat.blt (0 + es.length * b.sz) b.cells.length)), h)) = _
    rw [hg]
    simp only []
    rw [cut_all _ _ hlen]
    simp only []
    rw [freezeL_still _ _ _ (by
      intro c hc
      obtain ⟨e', he', hc'⟩ := List.mem_flatten.1 hc
      exact hs e' he' c hc') hl]
    simp only []
    rw [group_flatten es hsz]
    simp only [Nat.zero_add, hlen]
    rw [show Nat.blt (es.length * sz) (es.length * sz) = false from by rw [Bool.eq_false_iff]; intro e; exact Nat.lt_irrefl _ (Nat.le_of_ble_eq_true e)]
    simp
theorem frz_tup3 {n : Nat} {hp h1 : Hp} {x y : PV} {a b : Value} (h : freeze n hp x = some (y, h1)) (hn : 3 ≤ n) : freeze (n + 2) hp (.tup [x, .v a, .v b]) = some (.tup [y, .v a, .v b], h1) := by
  obtain ⟨m, rfl⟩ : ∃ m, n = m + 3 := ⟨n - 3, by omega⟩
  show (match (match freeze (m + 3) hp x with | none => none | some (y, h) => match freezeL (m + 3) h [.v a, .v b] with | none => none | some (ys, h') => some (y :: ys, h')) with | none => none | some (l, h) => some (PV.tup l, h)) = _
  rw [h]
  rfl
theorem toks_len : ∀ (its : List Itm) (p : Nat), (toksI its p).length = its.length
  | [], _ => rfl
  | a :: r, p => by rw [toksI, List.length_cons, toks_len r, List.length_cons]
theorem toks_four : ∀ {its : List Itm} {p : Nat}, ∀ e ∈ toksI its p, ∃ k t n a, e = [i k, t, n, i a] ∧ ∃ it ∈ its, t = it.x.t ∧ n = it.x.n
  | a :: r, p, e, h => by
    rcases List.mem_cons.1 h with rfl | h
    · exact ⟨_, _, _, _, rfl, a, List.mem_cons_self .., rfl, rfl⟩
    · obtain ⟨k, t, n, b, h1, it, h2, h3⟩ := toks_four e h
      exact ⟨k, t, n, b, h1, it, List.mem_cons_of_mem _ h2, h3⟩
theorem its_lex {its : List Itm} {b : UInt8} (h : Its its b) : ∀ a ∈ its, a.x ∈ A.lexs := by
  induction h with
  | nil => intro a ha; cases ha
  | cons h1 h2 h3 h4 h5 ih =>
    intro a ha
    rcases List.mem_cons.1 ha with rfl | ha
    · exact h1
    · exact ih a ha
def flatB (x : Lx) : Bool := (match x.t with | .v _ => true | _ => false) && match x.n with | .v _ => true | _ => false
theorem lexs_flat : A.lexs.all flatB = true := by kernel_rfl
theorem lex_flat {x : Lx} (h : x ∈ A.lexs) : (∃ v, x.t = .v v) ∧ ∃ v, x.n = .v v := by
  have h := List.all_eq_true.1 lexs_flat _ h
  simp only [flatB, Bool.and_eq_true] at h
  obtain ⟨h1, h2⟩ := h
  constructor
  · split at h1
    · rename_i e; exact ⟨_, e⟩
    · cases h1
  · split at h2
    · rename_i e; exact ⟨_, e⟩
    · cases h2
theorem its_short {its : List Itm} {b : UInt8} (h : Its its b) : its.length ≤ (txtI its).length := by
  induction h with
  | nil => exact Nat.le_refl _
  | @cons a r b h1 h2 h3 h4 h5 ih =>
    have := A.lex_pos h1
    simp only [txtI, List.length_append, List.length_cons, A.bts_len]
    omega
theorem scan_known [Env] {its : List Itm} (h : Its its 0) (hne : its ≠ []) (hl : (txtI its).length ≤ 4000) : Known Tryz.prog 25 [Str (txtI its)] (.tup [.sl (toksI its 0) false, i 0, i 0]) := by
  obtain ⟨hp', x', h1, h2⟩ := loop25 (R := PV) its (txtI its) its 0 0 nl ⟨[], 0, []⟩ [] h (by omega) hl (by simp) (AccS.nil 103 4 _) (fun _ _ => rfl) (fun _ _ => rfl)
  rw [List.nil_append] at h2
  have c49 : t49 its 0 0 = some (i (ahead its 0)) := by
    cases its with
    | nil => exact absurd rfl hne
    | cons a r => unfold t49; rw [if_pos rfl]; rfl
  have hgt : Nat.ble (txtI its).length 4000 = true := Nat.ble_eq_true_of_le hl
  have hs := its_short h
  have hst : ∀ e ∈ toksI its 0, ∀ c ∈ e, Still c := by
    intro e he c hc
    obtain ⟨k, t, n, a, rfl, it, hi, rfl, rfl⟩ := toks_four e he
    obtain ⟨⟨v, e1⟩, w, e2⟩ := lex_flat (its_lex h it hi)
    rw [e1, e2] at hc
    simp only [List.mem_cons, List.not_mem_nil, or_false] at hc
    rcases hc with rfl | rfl | rfl | rfl <;> exact still_v _
  have hlen : (toksI its 0).flatten.length ≤ 999999999996 := by
    rw [flatten_len h2.1, toks_len]; omega
  obtain ⟨hp2, hf⟩ := h2.frz hst 999999999996 hlen (by
    intro e
    have := toks_len its 0
    rw [e] at this
    exact hne (List.length_eq_zero_iff.1 this.symm))
  refine known_runD (n := its.length + 1) tOk mixed A.lf0 (A.orcS_ok hl h rfl) e25ok (p := .tup [x', i 0, i 0]) (h := hp') (fun k => ?_) (frz_tup3 hf (by omega))
  rw [b25, run_succ, c25_eq]
  simp only [ev_seq, r25_0a, seqK_normal, r25_1a, lenL9, primBin_eq, bin_int, int_gtr, ofNat_ble, hgt, Bool.not_true, ret1_some', bP_some, ev_cond, opd_tmp, alget, Nat.reduceEqDiff, reduceIte, bB_false, ev_skip, r25_3a, r25_4a, ask49 c49, ev_block]
  rw [Nat.zero_add] at h1
  rw [h1]
  simp only [blockK_at, reduceIte, seqK_normal, ev_seq, r25_12a, ev_ret, seqK_ret, endK_ret, z25a, consO_some, oneR_two, bQ_some]
end Go.Ev

/- ParseExpr: its run. -/
namespace Go.Ev.A
open Go.Proofs
noncomputable def fnsZ : Fns := (.nd (.nd (.nd (.nd (.nd (.nd (.nd .lf (some e63) .lf) none .lf) none .lf) none .lf) none (.nd .lf none (.nd .lf (some e27) .lf))) none .lf) none (.nd (.nd (.nd (.nd (.nd (.nd .lf (some e64) .lf) none .lf) none .lf) none .lf) none (.nd .lf none (.nd .lf (some e28) .lf))) none .lf))
theorem fnsZOk [Env] : FTOk Tryz.prog fnsZ := .of ⟨trivial, ⟨trivial, ⟨trivial, ⟨trivial, ⟨trivial, ⟨trivial, ⟨e63ok, trivial, trivial⟩, trivial⟩, trivial⟩, trivial⟩, ⟨trivial, trivial, ⟨e27ok, trivial, trivial⟩⟩⟩, trivial⟩, ⟨trivial, ⟨trivial, ⟨trivial, ⟨trivial, ⟨trivial, ⟨e64ok, trivial, trivial⟩, trivial⟩, trivial⟩, trivial⟩, ⟨trivial, trivial, ⟨e28ok, trivial, trivial⟩⟩⟩, trivial⟩⟩
def askZ : AskOp → List PV → Option PV
  | .len 68, [.unk 0] => some (.unk 900)
  | .len 9, [.unk 7] => some (.unk 1)
  | .bin .lss _, [.unk 1001, .unk 900] => some (Bo false)
  | _, _ => none
def orcZ : Orc := fun f ds => match f, ds with
  | 25, [.unk 7] => some (.tup [.unk 0, I 0, I 0])
  | 26, [.top, .mp 73, .tup [.unk 0, .unk 1, .v (.int .i64 (.ofNat 0)), .v (.int .i64 (.ofNat 0)), .v (.int .i64 (.ofNat 0)), .v (.bool false)], .v (.int .i64 (.ofNat 1))] =>
    some (.tup [.agg (un 2000 10), .tup [.unk 0, .unk 1, .unk 1001, I 0, I 0, Bo false]])
  | _, _ => none
noncomputable def okParse : Bool := goesD ⟨tysT, askZ⟩ fnsZ orcZ 10000 e12 [.unk 7] (.tup [.agg (un 2000 10), I 0, I 0])
theorem parseOk : okParse = true := by kernel_rfl
end Go.Ev.A

/- ParseExpr answers what its grammar says. -/
namespace Go.Ev.A
open Go.Proofs
def zX (l : List UInt8) (es : List (List PV)) (n : Nat) (X : List PV) (k : Nat) : PV :=
  if 2000 ≤ k then X.getD (k - 2000) (I 0) else if k = 0 then .sl es false else if k = 1 then I l.length else if k = 7 then Str l else if k = 900 then I es.length else if k = 1001 then I n else I 0
section
variable [E : Env]
theorem parse_known {n : Nat} {l : List UInt8} (hw : Wr n l) (hn : n ≤ 18) (hl : l.length ≤ 4000) : ∃ X, X.length = 10 ∧ (∀ c ∈ X, formed c) ∧ Ez n X ∧ Known Tryz.prog 12 [Str l] (.tup [.agg X, I 0, I 0]) := by
  obtain ⟨_, ts, hg, hs⟩ := hw
  obtain ⟨its, h1, h2, h3⟩ := (hs 0 rfl).its
  subst h2
  have hne : its ≠ [] := by
    intro e
    rw [e] at h1
    exact hg.ne h1.symm
  have hscan := scan_known h3 hne hl
  have hlen : (toksI its 0).length = ts.length := by rw [toks_len, ← h1, List.length_map]
  have hcl : clean (.sl (toksI its 0) false) = true := by
    have : ∀ (es : List (List PV)), (∀ e ∈ es, ∀ c ∈ e, ∃ v, c = PV.v v) → cleanE es = true := by
      intro es
      induction es with
      | nil => intro _; rfl
      | cons e es ih =>
        intro h
        have he : cleanL e = true := by
          have : ∀ (cs : List PV), (∀ c ∈ cs, ∃ v, c = PV.v v) → cleanL cs = true := by
            intro cs
            induction cs with
            | nil => intro _; rfl
            | cons c cs ih =>
              intro h
              obtain ⟨v, rfl⟩ := h c (List.mem_cons_self ..)
              simp only [cleanL, clean, Bool.true_and]
              exact ih fun c hc => h c (List.mem_cons_of_mem _ hc)
          exact this e (h e (List.mem_cons_self ..))
        simp only [cleanE, he, Bool.true_and]
        exact ih fun x hx => h x (List.mem_cons_of_mem _ hx)
    simp only [clean]
    refine this _ fun e he c hc => ?_
    obtain ⟨k, t, n, a, rfl, it, hi, rfl, rfl⟩ := toks_four e he
    obtain ⟨⟨v, e1⟩, w, e2⟩ := lex_flat (its_lex h3 it hi)
    rw [e1, e2] at hc
    simp only [List.mem_cons, List.not_mem_nil, or_false] at hc
    rcases hc with rfl | rfl | rfl | rfl <;> exact ⟨_, rfl⟩
  have hlies : Lies (toksI its 0) 0 ts := by
    have key : ∀ (its : List Itm) (p : Nat), Its its 0 → ∀ (i : Nat) (y : TV), (its.map (·.y))[i]? = some y → ∃ at_, IntV at_ ∧ (toksI its p)[i]? = some (tokCells y.vt y.vn at_ y.x) := by
      intro its
      induction its with
      | nil => intro p _ i y h; cases h
      | cons a r ih =>
        intro p h i y hi
        cases h with
        | cons g1 g2 g3 g4 g5 =>
        cases i with
        | zero =>
          simp at hi
          subst hi
          exact ⟨.int .i64 (.ofNat (p + a.sp.length)), ⟨_, rfl⟩, by rw [toksI, g2]; rfl⟩
        | succ i => exact ih _ g5 i y (by simpa using hi)
    intro i y hi
    rw [Nat.zero_add]
    rw [← h1] at hi
    exact key its 0 h3 i y hi
  let e : PE := ⟨toksI its 0, false, .int .i64 (.ofNat (txtI its).length), .int .i64 (.ofNat 0), 1, .string ⟨⟨bts [88]⟩⟩, .bool true, fun _ => 0, fun _ => [], fun _ => .bool true, fun _ => []⟩
  have hs4 := its_short h3
  have hil : its.length = ts.length := by rw [← h1, List.length_map]
  obtain ⟨X, x1, x2, x3, x4⟩ := hg.reads (by omega) e false 0 hcl (by show (toksI its 0).length ≤ _; omega) hlies (.stop (by show 0 + ts.length = (toksI its 0).length; omega) rfl)
  refine ⟨X, x1, x2, x4, ?_⟩
  have hk := x3 1 false (by omega) (fun h => by cases h)
  rw [Nat.zero_add] at hk
  let σ := zX (txtI its) (toksI its 0) ts.length X
  have s0 : σ 0 = .sl (toksI its 0) false := rfl
  have s1 : σ 1 = I (txtI its).length := rfl
  have s7 : σ 7 = Str (txtI its) := rfl
  have s9 : σ 900 = I (toksI its 0).length := by show zX _ _ _ _ 900 = _; unfold zX; rw [if_neg (by omega), if_neg (by omega), if_neg (by omega), if_neg (by omega), if_pos rfl]
  have sA : σ 1001 = I ts.length := by show zX _ _ _ _ 1001 = _; unfold zX; rw [if_neg (by omega), if_neg (by omega), if_neg (by omega), if_neg (by omega), if_neg (by omega), if_pos rfl]
  have sX : subL σ (un 2000 10) = X := un_sub 10 2000 X x1 fun i hi => by show zX _ _ _ _ (2000 + i) = _; unfold zX; rw [if_pos (by omega), Nat.add_sub_cancel_left]
  have hσ : Fit σ := by
    have : ∀ k, formed (σ k) := by
      intro k
      show formed (zX _ _ _ _ k)
      unfold zX
      split
      · exact formed_getD x2 _
      split
      · exact ⟨.inr ⟨_, _, rfl⟩, hcl⟩
      split
      · exact ⟨.inl ⟨_, rfl⟩, rfl⟩
      split
      · exact ⟨.inl ⟨_, rfl⟩, rfl⟩
      split
      · exact ⟨.inl ⟨_, rfl⟩, rfl⟩
      split
      · exact ⟨.inl ⟨_, rfl⟩, rfl⟩
      · exact ⟨.inl ⟨_, rfl⟩, rfl⟩
    exact ⟨fun k => (this k).1, fun k => (this k).2⟩
  have hO : @OrcOk (E.put σ hσ.form) Tryz.prog orcZ := by
    intro f ds q h
    refine KnownX.unsub hσ ?_
    unfold orcZ at h
    split at h
    · cases h
      simp only [subL, Ev.sub, s0, s7]
      exact hscan
    · cases h
      simp only [subL, Ev.sub, s0, s1, sX, sA]
      exact ⟨_, _, rfl, hk⟩
    · cases h
  have hA : ∀ o a q, askZ o a = some q → @AskEq (E.put σ hσ.form) tys o a q := by
    letI := E.put σ hσ.form
    have hr : ∀ n, res (.unk n) = σ n := fun n => rfl
    intro o a q h
    unfold askZ at h
    split at h
    · cases h
      exact ⟨I (toksI its 0).length, fun hp => by rw [hr, s0]; rfl, Le.unk s9⟩
    · cases h
      exact ⟨I (txtI its).length, fun hp => by rw [hr, s7]; rfl, Le.unk s1⟩
    · cases h
      refine ⟨Bo false, ?_, Le.refl _⟩
      rw [hr, hr, s9, sA]
      show intOp .lss .i64 .i64 (.ofNat _) (.ofNat _) = _
      rw [int_lss, ofNat_ble, Nat.ble_eq_true_of_le (by omega)]; rfl
    · cases h
  have := (Known.sub hσ (P := Tryz.prog) (f := 12) (ds := [.unk 7]) (q := .tup [.agg (un 2000 10), I 0, I 0])).1 (by
    letI := E.put σ hσ.form
    exact known_goes (T := ⟨tysT, askZ⟩) (TOk.asked (T := tys) tOk (AskOk.of tOk hA)) mixed fnsZOk hO e12ok parseOk)
  simp only [subL, Ev.sub, s7, sX] at this
  exact this
end
end Go.Ev.A
