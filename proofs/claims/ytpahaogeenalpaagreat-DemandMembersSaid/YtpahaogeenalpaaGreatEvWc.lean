/- Drawing: values of greater height. -/
import Derived.Test.YtpahaogeenalpaaGreatEvWb
set_option linter.all false
/- Drawing: values of greater height. -/
namespace Go.Ev.D
open Go.Proofs
/-! ### slices of slices, as values of their own -/
def Sim (s0 : Nat) (hp hp' : Hp) : Prop := hp'.next = hp.next ∧ (∀ j, j < s0 → hp'.get j = hp.get j) ∧ ∀ j c s l f, hp.get j = some ⟨c, s, l, f⟩ → ∃ f', hp'.get j = some ⟨c, s, l, f'⟩
theorem Sim.refl (s0 : Nat) (hp : Hp) : Sim s0 hp hp := ⟨rfl, fun _ _ => rfl, fun _ _ _ _ f h => ⟨f, h⟩⟩
theorem Sim.trans {s0 : Nat} {a b c : Hp} (h1 : Sim s0 a b) (h2 : Sim s0 b c) : Sim s0 a c :=
  ⟨h2.1.trans h1.1, fun j hj => (h2.2.1 j hj).trans (h1.2.1 j hj), fun j c s l f h => by
    obtain ⟨f', h'⟩ := h1.2.2 j c s l f h
    exact h2.2.2 j c s l f' h'⟩
theorem Sim.put {s0 : Nat} {hp : Hp} {a : Nat} {c : List PV} {s : Nat} {l : Bool} {f f' : Nat} (ha : s0 ≤ a) (h : hp.get a = some ⟨c, s, l, f⟩) : Sim s0 hp (hp.put a ⟨c, s, l, f'⟩) := by
  refine ⟨rfl, fun j hj => put_ne _ _ (by omega), fun j c' s' l' g hj => ?_⟩
  by_cases e : j = a
  · subst e
    rw [h] at hj
    cases hj
    exact ⟨f', put_at _ h⟩
  · exact ⟨g, (put_ne _ _ e).trans hj⟩
def RowN (sz s0 : Nat) (hp : Hp) (x : PV) (xs : List (List PV)) : Prop := (∀ e ∈ xs, e.length = sz) ∧ ((x = nl ∧ xs = []) ∨ xs ≠ [] ∧ ∃ j f, x = .row j 0 xs.length xs.length sz ∧ s0 ≤ j ∧ hp.get j = some ⟨xs.flatten, sz, true, f⟩)
abbrev Row7 (s0 : Nat) (hp : Hp) (x : PV) (xs : List (List PV)) : Prop := RowN 7 s0 hp x xs
theorem Acc.rowN {sz s0 : Nat} {hp : Hp} {x : PV} {xs : List (List PV)} (h : Acc sz s0 hp x xs) : RowN sz s0 hp x xs := by
  refine ⟨h.acc.1, ?_⟩
  rcases h.acc.2 with hx | ⟨j, e, hj, hg⟩
  · exact .inl hx
  · refine .inr ⟨fun e2 => ?_, j, 0, e, h.own _ _ _ _ _ e, hg⟩
    have := h.emp e2
    rw [e] at this
    cases this
theorem Acc.row7 {s0 : Nat} {hp : Hp} {x : PV} {xs : List (List PV)} (h : Acc 7 s0 hp x xs) : Row7 s0 hp x xs := h.rowN
theorem RowN.sim {sz s0 : Nat} {hp hp' : Hp} {x : PV} {xs : List (List PV)} (h : RowN sz s0 hp x xs) (hs : Sim s0 hp hp') : RowN sz s0 hp' x xs := by
  refine ⟨h.1, ?_⟩
  rcases h.2 with hx | ⟨hne, j, f, e, hj, hg⟩
  · exact .inl hx
  · obtain ⟨f', hg'⟩ := hs.2.2 j _ _ _ _ hg
    exact .inr ⟨hne, j, f', e, hj, hg'⟩
theorem frzRow {sz : Nat} {hp : Hp} {id f : Nat} {es : List (List PV)} {out : List PV} {os : List (List PV)} {hp' : Hp} (hg : hp.get id = some ⟨es.flatten, sz, true, f⟩) (hsz : ∀ e ∈ es, e.length = sz) (n : Nat)
    (hf : freezeL n (hp.put id ⟨es.flatten, sz, true, Nat.max f (0 + es.length * sz)⟩) es.flatten = some (out, hp')) (ho : group sz es.length out = some os) :
    freeze (n + 1) hp (.row id 0 es.length es.length sz) = some (.sl os false, hp') := by
  have hlen := flatten_len hsz
  show (match hp.get id with
    | none => none
    | some b => match cut b.cells 0 (es.length * b.sz) with
      | none => none
      | some cs => match freezeL n (hp.put id ⟨b.cells, b.sz, b.loose, Nat.max b.frz (0 + es.length * b.sz)⟩) cs with
        | none => none
        | some (l, h) => match group b.sz es.length l with
          | none => none
          | some es' => some (PV.sl es' (Nat.beq es.length es.length && (!b.loose || Nat.blt (0 + es.length * b.sz) b.cells.length)), h)) = _
  rw [hg]
  simp only []
  rw [cut_all _ _ hlen]
  simp only []
  rw [hf]
  simp only [ho]
  simp only [Nat.zero_add, hlen]
  rw [show Nat.blt (es.length * sz) (es.length * sz) = false from by rw [Bool.eq_false_iff]; intro e; exact Nat.lt_irrefl _ (Nat.le_of_ble_eq_true e)]
  simp
theorem frzRow7 {sz s0 : Nat} {hp : Hp} {x : PV} {xs : List (List PV)} (h : RowN sz s0 hp x xs) (hs : ∀ e ∈ xs, ∀ c ∈ e, Still c) {n : Nat} (hl : xs.flatten.length ≤ n) : ∃ hp', freeze (n + 2) hp x = some (slOf xs, hp') ∧ Sim s0 hp hp' := by
  rcases h.2 with ⟨rfl, rfl⟩ | ⟨hne, j, f, rfl, hj, hg⟩
  · exact ⟨hp, rfl, Sim.refl _ _⟩
  · refine ⟨hp.put j ⟨xs.flatten, sz, true, Nat.max f (0 + xs.length * sz)⟩, (frzRow hg h.1 (n + 1) (freezeL_still _ _ _ (by
      intro c hc
      obtain ⟨e', he', hc'⟩ := List.mem_flatten.1 hc
      exact hs e' he' c hc') hl) (group_flatten xs h.1)).trans ?_, Sim.put hj hg⟩
    cases xs with
    | nil => exact absurd rfl hne
    | cons e r => rfl
theorem still_pre : ∀ {l : List PV} {n : Nat} {hp hp' : Hp} {rest out : List PV}, (∀ c ∈ l, Still c) → 1 ≤ n → freezeL n hp rest = some (out, hp') → freezeL (n + l.length) hp (l ++ rest) = some (l ++ out, hp')
  | [], _, _, _, _, _, _, _, h => h
  | c :: l, n, hp, hp', rest, out, hc, hn, h => by
    have ih := still_pre (l := l) (fun x hx => hc x (by simp [hx])) hn h
    have h1 : freeze (n + l.length) hp c = some (c, hp) := by
      obtain ⟨m, hm⟩ : ∃ m, n + l.length = m + 1 := ⟨n + l.length - 1, by omega⟩
      rw [hm]
      exact hc c (by simp) m hp
    exact freezeL_cons h1 ih
section
variable [E : Env]
variable {R : Type} {lp : PV} {zs : List Int}
/-- an entry: its slice, what that holds, its result -/
structure Slot where
  x : PV
  xs : List (List PV)
  r : Option (List PV)
def Slot.cells (t : Slot) : List PV := entX t.x t.r
def Slot.val (t : Slot) : List PV := ent t.xs t.r
theorem frzEnts {s0 B : Nat} : ∀ (L : List Slot) {hp : Hp} {n : Nat}, 100 ≤ n → (∀ t ∈ L, Row7 s0 hp t.x t.xs ∧ t.xs.length ≤ 2 ∧ (∀ e ∈ t.xs, GB B e) ∧ ∀ v, t.r = some v → GB B v) →
    ∃ hp', freezeL (n + 9 * L.length) hp (L.map Slot.cells).flatten = some ((L.map Slot.val).flatten, hp') ∧ Sim s0 hp hp'
  | [], hp, n, hn, _ => by
    obtain ⟨m, rfl⟩ : ∃ m, n = m + 1 := ⟨n - 1, by omega⟩
    exact ⟨hp, rfl, Sim.refl _ _⟩
  | t :: L, hp, n, hn, h => by
    obtain ⟨h1, h2, h3, h4⟩ := h t (by simp)
    have hfl := len_flat h3
    obtain ⟨hp1, f1, m1⟩ := frzRow7 h1 (gt_still h3) (n := n + 9 * L.length + 6) (by omega)
    obtain ⟨hp2, f2, m2⟩ := frzEnts L (hp := hp1) hn fun u hu => ⟨(h u (by simp [hu])).1.sim m1, (h u (by simp [hu])).2⟩
    refine ⟨hp2, ?_, m1.trans m2⟩
    obtain ⟨x, xs, r⟩ := t
    have key : ∀ (b : Bool) (z : List PV), z.length = 7 → (∀ c ∈ z, Still c) → freezeL (n + 9 * (L.length + 1)) hp (x :: bo b :: z ++ (L.map Slot.cells).flatten) = some (slOf xs :: bo b :: z ++ (L.map Slot.val).flatten, hp2) := by
      intro b z hz hst
      have g := still_pre (l := bo b :: z) (by intro c hc; rcases List.mem_cons.1 hc with rfl | hc; exact still_v _; exact hst c hc) (by omega) f2
      rw [show n + 9 * L.length + (bo b :: z).length = n + 9 * L.length + 8 by simp [hz]] at g
      exact freezeL_cons f1 g
    cases r with
    | none => exact key true zero rfl fun c hc => still_cell (c_zero c hc)
    | some v => exact key false v (h4 v rfl).1.seven fun c hc => still_cell ((h4 v rfl).1.cells c hc)
theorem slot_nine {B : Nat} {t : Slot} (h : ∀ v, t.r = some v → GB B v) : t.cells.length = 9 ∧ t.val.length = 9 := by
  obtain ⟨x, xs, r⟩ := t
  cases r with
  | none => exact ⟨rfl, rfl⟩
  | some v => exact ⟨by simp [Slot.cells, entX, (h v rfl).1.seven], by simp [Slot.val, ent, (h v rfl).1.seven]⟩
/-- all of a function's entries -/
structure SlotOk (s0 B c : Nat) (hp : Hp) (t : Slot) : Prop where
  acc : Acc 7 s0 hp t.x t.xs
  len : t.xs.length = c
  gx : ∀ e ∈ t.xs, GB B e
  gr : ∀ v, t.r = some v → GB B v
theorem frzFun {s0 B c : Nat} (hc : c ≤ 2) {hp : Hp} {x : PV} {L : List Slot} (hL : L.length ≤ 2) (h : Acc 9 s0 hp x (L.map Slot.cells)) (ht : ∀ t ∈ L, SlotOk s0 B c hp t) (k : Nat) :
    ∃ hp', freezeL deepN hp [i k, x] = some ([i k, slOf (L.map Slot.val)], hp') ∧ Sim s0 hp hp' := by
  have nine : ∀ e ∈ L.map Slot.cells, e.length = 9 := by
    intro e he
    obtain ⟨t, h1, rfl⟩ := List.mem_map.1 he
    exact (slot_nine (ht t h1).gr).1
  have nine2 : ∀ e ∈ L.map Slot.val, e.length = 9 := by
    intro e he
    obtain ⟨t, h1, rfl⟩ := List.mem_map.1 he
    exact (slot_nine (ht t h1).gr).2
  have hx : ∃ hp', freeze 998 hp x = some (slOf (L.map Slot.val), hp') ∧ Sim s0 hp hp' := by
    rcases h.acc.2 with ⟨rfl, e⟩ | ⟨j, e, hj, hg⟩
    · have : L = [] := by simpa using e
      subst this
      exact ⟨hp, rfl, Sim.refl _ _⟩
    · have hne : L ≠ [] := by
        intro e2
        subst e2
        have := h.emp rfl
        rw [e] at this
        cases this
      have s1 : Sim s0 hp (hp.put j ⟨(L.map Slot.cells).flatten, 9, true, Nat.max 0 (0 + (L.map Slot.cells).length * 9)⟩) := Sim.put (h.own _ _ _ _ _ e) hg
      obtain ⟨hp2, f2, m2⟩ := frzEnts (B := B) L (n := 997 - 9 * L.length) (by omega) fun t h1 => ⟨(ht t h1).acc.row7.sim s1, by rw [(ht t h1).len]; exact hc, (ht t h1).gx, (ht t h1).gr⟩
      rw [show 997 - 9 * L.length + 9 * L.length = 997 by omega] at f2
      have gr := group_flatten (L.map Slot.val) nine2
      rw [List.length_map] at gr
      subst e
      have := frzRow hg nine 997 f2 (by rw [List.length_map]; exact gr)
      refine ⟨hp2, this.trans ?_, s1.trans m2⟩
      cases L with
      | nil => exact absurd rfl hne
      | cons t L => rfl
  obtain ⟨hp', f, m⟩ := hx
  exact ⟨hp', freezeL_cons (n := 999) rfl (freezeL_cons (n := 998) f rfl), m⟩
/-- one more entry each round -/
theorem loopFun (hl : IsL lp zs) (hz : zs.length ≤ 60) {h N B : Nat} (hh : h ≤ 100) (gv : Gen R lp N 4 [i h] (LV B)) {c : Nat} (hc : c ≤ 2) : ∀ (m n : Nat), N + 5 + m ≤ n → ∀ {hp : Hp} {id a s0 : Nat} {x x4 : PV} {L : List Slot}, id < s0 → s0 ≤ hp.next → hp.get id = some (src lp a) → Acc 9 s0 hp x (L.map Slot.cells) → (∀ t ∈ L, SlotOk s0 B c hp t) → L.length + m ≤ 2 →
    ∃ (x' : PV) (L' : List Slot) (a' : Nat) (hp' : Hp), hp'.get id = some (src lp a') ∧ Acc 9 s0 hp' x' (L'.map Slot.cells) ∧ (∀ t ∈ L', SlotOk s0 B c hp' t) ∧ L'.length = L.length + m ∧ Below s0 id hp hp' ∧
      ∀ k, evC tys e13 l13_2 (callF tys fnsO orc (run tys fnsO orc n)) (run (R := R) tys fnsO orc n) ⟨[(0, .ptr id 0), (1, i (h + 1)), (4, x4), (13, i c), (14, x), (15, i m)], hp⟩ k = k (.exit 5) ⟨[(0, .ptr id 0), (1, i (h + 1)), (4, x4), (13, i c), (14, x'), (15, i 0), (102, .v (.bool false))], hp'⟩
  | 0, n, hn, hp, id, a, s0, x, x4, L, hid, hs0, hs, hx, hL, hlen => by
    refine ⟨x, L, a, hp, hs, hx, hL, rfl, Below.refl _ _ _, fun k => ?_⟩
    rw [l13_2_eq]
    simp only [ev_loop, ev_seq, ev_cond, r13_32a, gtr_0, bP_some, seqK_normal, opd_tmp, alget, Nat.reduceEqDiff, reduceIte, bB_false, ev_exit, seqK_exit]
  | m + 1, n, hn, hp, id, a, s0, x, x4, L, hid, hs0, hs, hx, hL, hlen => by
    obtain ⟨n', rfl, hn'⟩ := succ_of (N := N + 5 + m) (n := n) (by omega)
    obtain ⟨x1, xs, r, a1, hp1, ac1, len1, gx1, gr1, s1, f1, c1⟩ := gEntry hl hz gv hc (n' + 1) (by omega) hp id a (by omega) hs
    have n1 := f1.1
    have hx1 := hx.fr hid f1
    have nine : (entX x1 r).length = 9 := (slot_nine (t := ⟨x1, xs, r⟩) gr1).1
    obtain ⟨x2, hp2, p2, hx2, n2, g2⟩ := hx1.app sl28 (Nat.le_trans hs0 n1) (e := entX x1 r) nine (by simp; omega)
    have b2 : Below s0 id hp1 hp2 := app_below hx1 (Nat.le_trans hs0 n1) n2 g2
    have s2 : hp2.get id = some (src lp a1) := (g2 id (by omega) fun o l c s e => by have := hx1.own _ _ _ _ _ e; omega).trans s1
    -- rows of seven cells are not the row of nine
    have keep7 : ∀ {y : PV} {ys : List (List PV)}, Acc 7 s0 hp1 y ys → Acc 7 s0 hp2 y ys := by
      intro y ys hy
      refine ⟨⟨hy.acc.1, ?_⟩, hy.own, hy.emp⟩
      rcases hy.acc.2 with e | ⟨j, e, hj, hg⟩
      · exact .inl e
      · refine .inr ⟨j, e, by omega, (g2 j hj fun o l c s ex => ?_).trans hg⟩
        rcases hx1.acc.2 with ⟨e0, _⟩ | ⟨j', e0, hj', hg'⟩
        · rw [e0] at ex; cases ex
        · rw [e0] at ex
          cases ex
          rw [hg] at hg'
          simp at hg'
    have hnew : SlotOk s0 B c hp2 ⟨x1, xs, r⟩ := ⟨keep7 ⟨ac1.acc, fun j o l c s e => Nat.le_trans hs0 (ac1.own j o l c s e), ac1.emp⟩, len1, gx1, gr1⟩
    have hL2 : ∀ t ∈ L ++ [(⟨x1, xs, r⟩ : Slot)], SlotOk s0 B c hp2 t := by
      intro t ht
      rcases List.mem_append.1 ht with ht | ht
      · have := hL t ht
        exact ⟨keep7 (this.acc.fr hid f1), this.len, this.gx, this.gr⟩
      · simp at ht; subst ht; exact hnew
    have hx2' : Acc 9 s0 hp2 x2 ((L ++ [(⟨x1, xs, r⟩ : Slot)]).map Slot.cells) := by rw [List.map_append]; exact hx2
    obtain ⟨x3, L3, a3, hp3, s3, hx3, hL3, hl3, b3, c3⟩ := loopFun hl hz hh gv hc m n' hn' (x4 := x4) hid (Nat.le_trans hs0 (Nat.le_trans n1 n2)) s2 hx2' hL2 (by simp; omega)
    refine ⟨x3, L3, a3, hp3, s3, hx3, hL3, by rw [hl3]; simp; omega, ((f1.below hs0).trans b2).trans b3, fun k => ?_⟩
    rw [l13_2_eq]
    simp only [ev_loop, ev_seq, ev_cond, ev_block, ev_skip, r13_32a, gtr_i, bP_some, seqK_normal, blockK_normal, opd_tmp, alget, Nat.reduceEqDiff, reduceIte, bB_true, r13_34a, sub_i _ (h + 1) 1 (by omega) (by omega), Nat.add_sub_cancel, c1, mk28 _ nine, p2, r13_33a, sub_i _ (m + 1) 1 (by omega) (by omega)]
    rw [← l13_2_eq, run_succ]
    exact c3 k
/-- one more key and value each round -/
theorem loopMap (hl : IsL lp zs) (hz : zs.length ≤ 60) {h N B : Nat} (hh : h ≤ 100) (hN : 3 ≤ N) (gv : Gen R lp N 4 [i h] (LV B)) : ∀ (m n : Nat), N + m ≤ n → ∀ {hp : Hp} {id a s0 : Nat} {x y x4 : PV} {ks es : List (List PV)}, id < s0 → s0 ≤ hp.next → hp.get id = some (src lp a) → Acc 2 s0 hp x ks → Acc 7 s0 hp y es → (∀ k ∈ ks, k ∈ keys) → (∀ e ∈ es, GB B e) → ks.length = es.length → es.length + m ≤ 2 →
    ∃ x' y' ks' es' a' hp', hp'.get id = some (src lp a') ∧ Acc 2 s0 hp' x' ks' ∧ Acc 7 s0 hp' y' es' ∧ (∀ k ∈ ks', k ∈ keys) ∧ (∀ e ∈ es', GB B e) ∧ ks'.length = es'.length ∧ es'.length ≤ 2 ∧ Below s0 id hp hp' ∧
      ∀ k, evC tys e13 l13_1 (callF tys fnsO orc (run tys fnsO orc n)) (run (R := R) tys fnsO orc n) ⟨[(0, .ptr id 0), (1, i (h + 1)), (4, x4), (8, x), (9, y), (10, i m)], hp⟩ k = k (.exit 3) ⟨[(0, .ptr id 0), (1, i (h + 1)), (4, x4), (8, x'), (9, y'), (10, i 0), (71, .v (.bool false))], hp'⟩
  | 0, n, hn, hp, id, a, s0, x, y, x4, ks, es, hid, hs0, hs, hx, hy, hk, he, hke, hlen => by
    refine ⟨x, y, ks, es, a, hp, hs, hx, hy, hk, he, hke, hlen, Below.refl _ _ _, fun k => ?_⟩
    rw [l13_1_eq]
    simp only [ev_loop, ev_seq, ev_cond, r13_21a, gtr_0, bP_some, seqK_normal, opd_tmp, alget, Nat.reduceEqDiff, reduceIte, bB_false, ev_exit, seqK_exit]
  | m + 1, n, hn, hp, id, a, s0, x, y, x4, ks, es, hid, hs0, hs, hx, hy, hk, he, hke, hlen => by
    obtain ⟨n', rfl, hn'⟩ := succ_of (N := N + m) (n := n) (by omega)
    obtain ⟨_, a1, hp1, ⟨kk, rfl, hkk⟩, s1, f1, c1⟩ := gKey (R := R) hl hz (n' + 1) (by omega) hp id a (by omega) hs
    obtain ⟨k0, k1, rfl⟩ := keys_two hkk
    have n1 := f1.1
    have hx1 := hx.fr hid f1
    have hy1 := hy.fr hid f1
    obtain ⟨x2, hp2, p2, hx2, n2, g2⟩ := hx1.app sl27 (Nat.le_trans hs0 n1) (e := [k0, k1]) rfl (by omega)
    have b2 : Below s0 id hp1 hp2 := app_below hx1 (Nat.le_trans hs0 n1) n2 g2
    have hy2 : Acc 7 s0 hp2 y es := by
      refine ⟨⟨hy1.acc.1, ?_⟩, hy1.own, hy1.emp⟩
      rcases hy1.acc.2 with e | ⟨j, e, hj, hg⟩
      · exact .inl e
      · refine .inr ⟨j, e, by omega, (g2 j hj fun o l c s ex => ?_).trans hg⟩
        rcases hx1.acc.2 with ⟨e0, _⟩ | ⟨j', e0, hj', hg'⟩
        · rw [e0] at ex; cases ex
        · rw [e0] at ex
          cases ex
          rw [hg] at hg'
          simp at hg'
    have s2 : hp2.get id = some (src lp a1) := (g2 id (by omega) fun o l c s e => by have := hx1.own _ _ _ _ _ e; omega).trans s1
    obtain ⟨_, a3, hp3, ⟨v, rfl, hv⟩, s3, f3, c3⟩ := gv (n' + 1) (by omega) hp2 id a1 (by omega) s2
    have n3 := f3.1
    have hx3 := hx2.fr hid f3
    have hy3 := hy2.fr hid f3
    obtain ⟨y4, hp4, p4, hy4, n4, g4⟩ := hy3.app sl26 (by omega) (e := v) hv.1.seven (by omega)
    have b4 : Below s0 id hp3 hp4 := app_below hy3 (by omega) n4 g4
    have hx4 : Acc 2 s0 hp4 x2 (ks ++ [[k0, k1]]) := by
      refine ⟨⟨hx3.acc.1, ?_⟩, hx3.own, hx3.emp⟩
      rcases hx3.acc.2 with e | ⟨j, e, hj, hg⟩
      · exact .inl e
      · refine .inr ⟨j, e, by omega, (g4 j hj fun o l c s ex => ?_).trans hg⟩
        rcases hy3.acc.2 with ⟨e0, _⟩ | ⟨j', e0, hj', hg'⟩
        · rw [e0] at ex; cases ex
        · rw [e0] at ex
          cases ex
          rw [hg] at hg'
          simp at hg'
    have s4 : hp4.get id = some (src lp a3) := (g4 id (by omega) fun o l c s e => by have := hy3.own _ _ _ _ _ e; omega).trans s3
    have hk4 : ∀ k ∈ ks ++ [[k0, k1]], k ∈ keys := by
      intro e h; rcases List.mem_append.1 h with h | h
      · exact hk e h
      · simp at h; subst h; exact hkk
    have he4 : ∀ e ∈ es ++ [v], GB B e := by
      intro e h; rcases List.mem_append.1 h with h | h
      · exact he e h
      · simp at h; subst h; exact hv
    obtain ⟨x5, y5, ks5, es5, a5, hp5, s5, hx5, hy5, hk5, he5, hke5, hl5, b5, c5⟩ := loopMap hl hz hh hN gv m n' hn' (x4 := x4) hid (by omega) s4 hx4 hy4 hk4 he4 (by simp [hke]) (by simp; omega)
    refine ⟨x5, y5, ks5, es5, a5, hp5, s5, hx5, hy5, hk5, he5, hke5, hl5, ((((f1.below hs0).trans b2).trans (f3.below (by omega))).trans b4).trans b5, fun k => ?_⟩
    rw [l13_1_eq]
    simp only [ev_loop, ev_seq, ev_cond, ev_block, ev_skip, r13_21a, gtr_i, bP_some, seqK_normal, blockK_normal, opd_tmp, alget, Nat.reduceEqDiff, reduceIte, bB_true, r13_23a, c1, mk27, p2, r13_24a, sub_i _ (h + 1) 1 (by omega) (by omega), Nat.add_sub_cancel, c3, mk26 _ hv.1.seven, p4, r13_22a, sub_i _ (m + 1) 1 (by omega) (by omega)]
    rw [← l13_1_eq, run_succ]
    exact c5 k
end
end Go.Ev.D

/- Drawing: values of every height. -/
namespace Go.Ev.D
open Go.Proofs
theorem eq_c (hp : Hp) (a b : Nat) : primBin tys hp .eql 61 (some (i a)) (some (i b)) = some (.v (.bool (decide (a = b))), hp) := by
  rw [primBin_eq, bin_int, int_eql, ret1_some', ieqb_nat]
theorem ext0 (hp : Hp) (a b : PV) : primExtract hp 0 (some (.tup [a, b])) = some (a, hp) := rfl
theorem ext1 (hp : Hp) (a b : PV) : primExtract hp 1 (some (.tup [a, b])) = some (b, hp) := rfl
theorem gtr_ff (hp : Hp) (a b : Nat) (h : a ≤ b) : primBin tys hp .gtr 3 (some (i a)) (some (i b)) = some (.v (.bool false), hp) := by
  rw [primBin_eq, bin_int, int_gtr, ret1_some', ileb_nat]
  simp [h]
theorem gtr_tt (hp : Hp) (a b : Nat) (h : b < a) : primBin tys hp .gtr 3 (some (i a)) (some (i b)) = some (.v (.bool true), hp) := by
  rw [primBin_eq, bin_int, int_gtr, ret1_some', ileb_nat]
  simp [Nat.not_le.2 h]
section
variable [E : Env]
variable {R : Type} {lp : PV} {zs : List Int}
theorem fin31B {hp hp2 : Hp} {id a' : Nat} (hid : id < hp.next) (hb : Below (hp.next + 1) id (hp.new ⟨zero, 7, false, 0⟩) hp2) (hs : hp2.get id = some (src lp a')) {v : List PV} (hv : v.length = 7) :
    primStore tys hp2 31 (some (.ptr hp.next 0)) (some (.agg v)) = some (.un, hp2.put hp.next ⟨v, 7, false, 0⟩) ∧ (hp2.put hp.next ⟨v, 7, false, 0⟩).get id = some (src lp a') ∧ Fr id hp (hp2.put hp.next ⟨v, 7, false, 0⟩) ∧ loadAt tys (hp2.put hp.next ⟨v, 7, false, 0⟩) 31 (.ptr hp.next 0) = some (.agg v) := by
  have hk : hp2.get hp.next = some ⟨zero, 7, false, 0⟩ := (hb.2 hp.next (by omega) (by omega)).trans (get_new_next _ _)
  have hn : hp.next + 1 ≤ hp2.next := hb.1
  refine ⟨store31 hk rfl hv, by rw [put_ne _ _ (by omega)]; exact hs, ⟨by show hp.next ≤ hp2.next; omega, fun j hj hne => ?_⟩, loadAt31 (put_at _ hk) hv⟩
  rw [put_ne _ _ (by omega), hb.2 j (by omega) hne]
  exact new_get _ _ hj
theorem fin31A {hp hpA hp2 : Hp} {id a' : Nat} (hid : id < hp.next) (hA : hp.new ⟨zero, 7, false, 0⟩ = hpA) (hb : Below (hp.next + 1) id hpA hp2) (hs : hp2.get id = some (src lp a')) {v : List PV} (hv : v.length = 7) :
    primStore tys hp2 31 (some (.ptr hp.next 0)) (some (.agg v)) = some (.un, hp2.put hp.next ⟨v, 7, false, 0⟩) ∧ (hp2.put hp.next ⟨v, 7, false, 0⟩).get id = some (src lp a') ∧ Fr id hp (hp2.put hp.next ⟨v, 7, false, 0⟩) ∧ loadAt tys (hp2.put hp.next ⟨v, 7, false, 0⟩) 31 (.ptr hp.next 0) = some (.agg v) := by
  subst hA
  exact fin31B hid hb hs hv
theorem Sim.below {s0 id : Nat} {a b : Hp} (h : Sim s0 a b) : Below s0 id a b := ⟨Nat.le_of_eq h.1.symm, fun j hj _ => h.2.1 j hj⟩
theorem GV.relabel {c : PV} {es : List (List PV)} (h : GV (vFun c es nl)) {l : PV} (hl : l ∈ labels) : GV (vFun c es l) := by
  generalize hv : vFun c es nl = v at h
  cases h with
  | fn h1 h2 h3 h4 h5 h6 h7 =>
    simp only [vFun, List.cons.injEq] at hv
    have e1 := hv.2.1
    have e2 := slOf_inj hv.2.2.2.2.2.1
    rw [e1, e2]
    exact GV.fn h1 h2 h3 h4 h5 h6 hl
  | _ => simp [vFun, vInt, vStr, vAtom, vPid, vNil, vTup, vCons, vMap] at hv
theorem gvalue2 (hl : IsL lp zs) (hz : zs.length ≤ 60) {h N B : Nat} (h1 : 1 ≤ h) (h2 : h ≤ 2) (hN : 5 ≤ N) (hB : 20 ≤ B) (hB2 : B ≤ 900) (gv : Gen R lp N 4 [i h] (LV B)) (gv2 : h = 2 → Gen R lp N 4 [i 1] (LV B)) : Gen R lp (N + 12) 13 [i (h + 1)] (NV (B + 80)) := by
  intro n hn hp id a hid hs
  obtain ⟨n', rfl, hn'⟩ := succ_of (N := N + 11) (n := n) (by omega)
  have hnl : nl ∈ labels := by simp [labels]
  have hle : decide (h + 1 ≤ 1) = false := by simp; omega
  generalize hA : hp.new ⟨zero, 7, false, 0⟩ = hpA
  have nA : hpA.next = hp.next + 1 := by rw [← hA]; rfl
  have sA : hpA.get id = some (src lp a) := by rw [← hA, new_get _ _ hid]; exact hs
  obtain ⟨_, a1, hp1, ⟨x, hx, rfl⟩, s1, f1, c1⟩ := gNext (R := R) hl hz (m := 6) (by omega) (by omega) n' (by omega) hpA id a (by omega) sA
  have n1 := f1.1
  have b1 : Below (hp.next + 1) id hpA hp1 := f1.below (by omega)
  -- a leaf at the end
  have leafEnd : ∀ {hp2 : Hp} {a2 : Nat}, Below (hp.next + 1) id hpA hp2 → hp2.get id = some (src lp a2) → ∃ w a3 hp3, w.length = 6 ∧ (∀ l ∈ labels, GB (B + 80) (w ++ [l])) ∧ hp3.get id = some (src lp a3) ∧ Below (hp.next + 1) id hpA hp3 ∧ ∀ k, callF tys fnsO orc (run (R := R) tys fnsO orc n') 29 [.ptr id 0] hp2 k = k (.agg (w ++ [nl])) hp3 := by
    intro hp2 a2 hb hs2
    have := hb.1
    obtain ⟨_, a3, hp3, ⟨w, hw, rfl, hg⟩, s3, f3, c3⟩ := gLeaf (R := R) hl hz n' (by omega) hp2 id a2 (by omega) hs2
    exact ⟨w, a3, hp3, hw, fun l hl => (hg l hl).le (by omega), s3, hb.trans (f3.below (by omega)), c3⟩
  have leaf : (x = 0 ∨ x = 5) → ∃ r a' hp', NV (B + 80) r ∧ hp'.get id = some (src lp a') ∧ Fr id hp hp' ∧ ∀ k : PV → Hp → Option R, callF tys fnsO orc (run tys fnsO orc (n' + 1)) 13 [.ptr id 0, i (h + 1)] hp k = k r hp' := by
    intro hx0
    obtain ⟨w, a3, hp3, hw, hg, s3, b3, c3⟩ := leafEnd b1 s1
    have h7 : (w ++ [nl]).length = 7 := by simp [hw]
    obtain ⟨q1, q2, q3, q4⟩ := fin31A hid hA b3 s3 h7
    have e1 : x ≠ 1 := by omega
    have e2 : x ≠ 2 := by omega
    have e3 : x ≠ 3 := by omega
    have e4' : x ≠ 4 := by omega
    refine ⟨_, a3, _, ⟨w, hw, rfl, hg⟩, q2, q3, fun k => ?_⟩
    rw [call_own (fi := e13) rfl rfl, b13, run_succ, c13_eq]
    simp only [ev_seq, ev_cond, ev_block, ev_skip, r13_0a, alloc31, hA, bP_some, seqK_normal, blockK_normal, r13_1a, leq_i, hle, opd_tmp, alget, Nat.reduceEqDiff, reduceIte, bB_false, r13_3a, c1, r13_4a, eq_i, e1, e2, e3, e4', decide_false, r13_11a, r13_17a, r13_28a, r13_38c, c3, q1, ev_ret, seqK_ret, endK_ret, z13a, q4, consO_some, oneR_one, bQ_some]
  have hx' : x = 0 ∨ x = 5 ∨ x = 1 ∨ x = 3 ∨ x = 4 ∨ x = 2 := by omega
  rcases hx' with rfl | rfl | rfl | rfl | rfl | rfl
  · exact leaf (.inl rfl)
  · exact leaf (.inr rfl)
  · clear leaf
    obtain ⟨_, a2, hp2, ⟨m, hm, rfl⟩, s2, f2, c2⟩ := gNext (R := R) hl hz (m := 4) (by omega) (by omega) n' (by omega) hp1 id a1 (by omega) s1
    have n2 := f2.1
    obtain ⟨x3, es, a3, hp3, s3, hx3, he3, hl3, b3, c3⟩ := loopTup (R := R) (by omega) gv m n' (by omega) (hp := hp2) (id := id) (a := a2) (s0 := hp.next + 1) (x := nl) (x4 := .ptr hp.next 0) (es := []) (by omega) (by omega) s2 (Acc.nil 7 _ _) (by simp) (by simp; omega)
    have hlen : es.length ≤ 3 := by simp at hl3; omega
    obtain ⟨hp4, z1, z2, z3⟩ := frz1 hx3 (gt_still he3) (by rw [len_flat he3]; omega)
    have b4 : Below (hp.next + 1) id hp3 hp4 := ⟨Nat.le_of_eq z2.symm, fun j hj _ => z3 j hj⟩
    have hq := asked (R := R) (O := orc) (rc := run tys fnsO orc n') (f := 31) rfl z1 (o31 hlen fun k hk => (he3 k hk).1)
    obtain ⟨q1, q2, q3, q4⟩ := fin31A hid hA (((b1.trans (f2.below (by omega))).trans b3).trans b4) ((z3 id (by omega)).trans s3) (v := vTup es nl) rfl
    refine ⟨_, a3, _, ⟨[i 6, i 0, sb [], slOf es, nl, nl], rfl, rfl, fun l hl' => (GB.tup hlen he3 hl').le (by omega)⟩, q2, q3, fun k => ?_⟩
    rw [call_own (fi := e13) rfl rfl, b13, run_succ, c13_eq]
    simp only [ev_seq, ev_cond, ev_block, ev_skip, r13_0a, alloc31, hA, bP_some, seqK_normal, seqK_exit, blockK_normal, blockK_at, r13_1a, leq_i, hle, opd_tmp, alget, Nat.reduceEqDiff, reduceIte, bB_false, bB_true, r13_3a, c1, r13_4a, eq_i, decide_true, r13_5a, r13_6a, c2, c3, r13_10a, hq, q1, ev_ret, seqK_ret, blockK_ret, endK_ret, z13a, q4, consO_some, oneR_one, bQ_some]
    rfl
  · clear leaf
    obtain ⟨_, a2, hp2, ⟨m, hm, rfl⟩, s2, f2, c2⟩ := gNext (R := R) hl hz (m := 3) (by omega) (by omega) n' (by omega) hp1 id a1 (by omega) s1
    have n2 := f2.1
    obtain ⟨x3, y3, ks, es, a3, hp3, s3, hx3, hy3, hk3, he3, hke, hl3, b3, c3⟩ := loopMap (R := R) hl hz (by omega) (by omega) gv m n' (by omega) (hp := hp2) (id := id) (a := a2) (s0 := hp.next + 1) (x := nl) (y := nl) (x4 := .ptr hp.next 0) (ks := []) (es := []) (by omega) (by omega) s2 (Acc.nil 2 _ _) (Acc.nil 7 _ _) (by simp) (by simp) rfl (by simp; omega)
    have kst : ∀ e ∈ ks, ∀ c ∈ e, Still c := fun e he c hc => still_cell (c_keys e (hk3 e he) c hc)
    have k2l : ks.flatten.length = 2 * ks.length := flat_len fun k hk => by obtain ⟨p, q, rfl⟩ := keys_two (hk3 k hk); rfl
    obtain ⟨hp4, z1, z2⟩ := frzRow7 hx3.rowN kst (n := 997) (by omega)
    obtain ⟨hp5, z3, z4⟩ := frzRow7 (hy3.rowN.sim z2) (gt_still he3) (n := 996) (by rw [len_flat he3]; omega)
    have hfz : freezeL deepN hp3 [x3, y3] = some ([slOf ks, slOf es], hp5) := freezeL_cons (n := 999) z1 (freezeL_cons (n := 998) z3 rfl)
    have b5 : Below (hp.next + 1) id hpA hp5 := ((b1.trans (f2.below (by omega))).trans b3).trans (z2.trans z4).below
    have s5 : hp5.get id = some (src lp a3) := ((z2.trans z4).2.1 id (by omega)).trans s3
    have n5 : hp.next + 1 ≤ hp5.next := by have := b5.1; omega
    have kb := get_new_next hp5 ⟨zero, 7, false, 0⟩
    -- the block of the value behind it
    have after : ∀ {v : List PV}, v.length = 7 → primStore tys (hp5.new ⟨zero, 7, false, 0⟩) 31 (some (.ptr hp5.next 0)) (some (.agg v)) = some (.un, (hp5.new ⟨zero, 7, false, 0⟩).put hp5.next ⟨v, 7, false, 0⟩) ∧ ((hp5.new ⟨zero, 7, false, 0⟩).put hp5.next ⟨v, 7, false, 0⟩).get id = some (src lp a3) ∧ Below (hp.next + 1) id hpA ((hp5.new ⟨zero, 7, false, 0⟩).put hp5.next ⟨v, 7, false, 0⟩) ∧ primLoad tys ((hp5.new ⟨zero, 7, false, 0⟩).put hp5.next ⟨v, 7, false, 0⟩) 31 (some (.ptr hp5.next 0)) = some (.agg v, (hp5.new ⟨zero, 7, false, 0⟩).put hp5.next ⟨v, 7, false, 0⟩) := by
      intro v hv
      refine ⟨store31 kb rfl hv, by rw [put_ne _ _ (by omega), new_get _ _ (by omega)]; exact s5, ⟨by show hpA.next ≤ hp5.next + 1; omega, fun j hj hne => ?_⟩, load31 (put_at _ kb) hv⟩
      rw [put_ne _ _ (by omega), new_get _ _ (by omega)]
      exact b5.2 j hj hne
    rcases o35 hk3 (fun v hv => (he3 v hv).1) hke (by omega) with ho | ⟨ks', vs', ho, m1, m2, m3⟩
    · have hq := asked (R := R) (O := orc) (rc := run tys fnsO orc n') (f := 35) rfl hfz ho
      obtain ⟨t1, t2, t3, t4⟩ := after (v := zero) rfl
      obtain ⟨w, a6, hp6, hw, hg, s6, b6, c6⟩ := leafEnd t3 t2
      have h7 : (w ++ [nl]).length = 7 := by simp [hw]
      obtain ⟨q1, q2, q3, q4⟩ := fin31A hid hA b6 s6 h7
      refine ⟨_, a6, _, ⟨w, hw, rfl, hg⟩, q2, q3, fun k => ?_⟩
      rw [call_own (fi := e13) rfl rfl, b13, run_succ, c13_eq]
      simp only [ev_seq, ev_cond, ev_block, ev_skip, r13_0a, alloc31, hA, bP_some, seqK_normal, seqK_exit, blockK_normal, blockK_at, r13_1a, leq_i, hle, opd_tmp, alget, Nat.reduceEqDiff, reduceIte, bB_false, bB_true, r13_3a, c1, r13_4a, eq_i, decide_true, decide_false, r13_11a, r13_17a, r13_18a, r13_19a, r13_20a, c2, c3, r13_25a, hq, ext0, ext1, t1, r13_26a, eq_c, r13_38a, c6, q1, ev_ret, seqK_ret, blockK_ret, endK_ret, z13a, q4, consO_some, oneR_one, bQ_some]
    · have hq := asked (R := R) (O := orc) (rc := run tys fnsO orc n') (f := 35) rfl hfz ho
      obtain ⟨t1, t2, t3, t4⟩ := after (v := vMap ks' vs' nl) rfl
      obtain ⟨q1, q2, q3, q4⟩ := fin31A hid hA t3 t2 (v := vMap ks' vs' nl) rfl
      refine ⟨_, a3, _, ⟨[i 8, i 0, sb [], slOf vs', slOf ks', nl], rfl, rfl, fun l hl' => (GB.map m1 m2 (fun v hv => he3 v (m3 v hv)) hl').le (by omega)⟩, q2, q3, fun k => ?_⟩
      rw [call_own (fi := e13) rfl rfl, b13, run_succ, c13_eq]
      simp only [ev_seq, ev_cond, ev_block, ev_skip, r13_0a, alloc31, hA, bP_some, seqK_normal, seqK_exit, blockK_normal, blockK_at, r13_1a, leq_i, hle, opd_tmp, alget, Nat.reduceEqDiff, reduceIte, bB_false, bB_true, r13_3a, c1, r13_4a, eq_i, decide_true, decide_false, r13_11a, r13_17a, r13_18a, r13_19a, r13_20a, c2, c3, r13_25a, hq, ext0, ext1, t1, r13_26a, eq_c, r13_27a, t4, q1, ev_ret, seqK_ret, blockK_ret, endK_ret, z13a, q4, consO_some, oneR_one, bQ_some]
      rfl
  · clear leaf
    obtain ⟨_, a2, hp2, ⟨c, hc, rfl⟩, s2, f2, c2⟩ := gNext (R := R) hl hz (m := 3) (by omega) (by omega) n' (by omega) hp1 id a1 (by omega) s1
    have n2 := f2.1
    obtain ⟨_, a3, hp3, ⟨m, hm, rfl⟩, s3, f3, c3⟩ := gNext (R := R) hl hz (m := 3) (by omega) (by omega) n' (by omega) hp2 id a2 (by omega) s2
    have n3 := f3.1
    obtain ⟨x4, L, a4, hp4, s4, hx4, hL4, hl4, b4, c4⟩ := loopFun (R := R) hl hz (by omega) gv (c := c) (by omega) m n' (by omega) (hp := hp3) (id := id) (a := a3) (s0 := hp.next + 1) (x := nl) (x4 := .ptr hp.next 0) (L := []) (by omega) (by omega) s3 (Acc.nil 9 _ _) (by simp) (by simp; omega)
    have hlen : L.length ≤ 2 := by simp at hl4; omega
    obtain ⟨hp5, z1, z2⟩ := frzFun (by omega) hlen hx4 hL4 c
    have hE : EntsOk c (L.map fun t => (t.xs, t.r)) := by
      refine ⟨by simpa using hlen, ?_, ?_, ?_⟩
      · intro p hp; obtain ⟨t, ht, rfl⟩ := List.mem_map.1 hp; exact (hL4 t ht).len
      · intro p hp e he; obtain ⟨t, ht, rfl⟩ := List.mem_map.1 hp; exact ((hL4 t ht).gx e he).1
      · intro p hp v hv; obtain ⟨t, ht, rfl⟩ := List.mem_map.1 hp; exact ((hL4 t ht).gr v hv).1
    have hval : ents (L.map fun t => (t.xs, t.r)) = L.map Slot.val := by unfold ents; rw [List.map_map]; rfl
    obtain ⟨fs, ho, hg, hfl, hfm⟩ := o37 (by omega) hE
    rw [hval] at ho hfm
    have hq := asked (R := R) (O := orc) (rc := run tys fnsO orc n') (f := 37) rfl z1 ho
    have b5 : Below (hp.next + 1) id hpA hp5 := (((b1.trans (f2.below (by omega))).trans (f3.below (by omega))).trans b4).trans z2.below
    have s5 : hp5.get id = some (src lp a4) := (z2.2.1 id (by omega)).trans s4
    have n5 : hp.next + 1 ≤ hp5.next := by have := b5.1; omega
    have kb := get_new_next hp5 ⟨zero, 7, false, 0⟩
    have t1 := store31 kb rfl (v := vFun (i c) fs nl) rfl
    have t2 : ((hp5.new ⟨zero, 7, false, 0⟩).put hp5.next ⟨vFun (i c) fs nl, 7, false, 0⟩).get id = some (src lp a4) := by rw [put_ne _ _ (by omega), new_get _ _ (by omega)]; exact s5
    have t3 : Below (hp.next + 1) id hpA ((hp5.new ⟨zero, 7, false, 0⟩).put hp5.next ⟨vFun (i c) fs nl, 7, false, 0⟩) := ⟨by show hpA.next ≤ hp5.next + 1; omega, fun j hj hne => by rw [put_ne _ _ (by omega), new_get _ _ (by omega)]; exact b5.2 j hj hne⟩
    have t4 : primLoad tys ((hp5.new ⟨zero, 7, false, 0⟩).put hp5.next ⟨vFun (i c) fs nl, 7, false, 0⟩) 31 (some (.ptr hp5.next 0)) = some (.agg (vFun (i c) fs nl), (hp5.new ⟨zero, 7, false, 0⟩).put hp5.next ⟨vFun (i c) fs nl, 7, false, 0⟩) := load31 (put_at _ kb) rfl
    obtain ⟨q1, q2, q3, q4⟩ := fin31A hid hA t3 t2 (v := vFun (i c) fs nl) rfl
    have hpe : ∀ e ∈ fs, peqL (B + 30) e e = true := by
      intro e he
      obtain ⟨t, ht, rfl⟩ := List.mem_map.1 (hfm e he)
      exact ent_eq (by rw [(hL4 t ht).len]; omega) (fun x hx => ((hL4 t ht).gx x hx).2) fun x hx => ((hL4 t ht).gr x hx).2
    have hcm : i c ∈ ([i 0, i 1, i 2] : List PV) := by match c, hc with | 0, _ => simp | 1, _ => simp | 2, _ => simp
    refine ⟨_, a4, _, ⟨[i 9, i c, sb [], nl, nl, slOf fs], rfl, rfl, fun l hl' => (GB.fn (hg.relabel hl') hcm hfl hpe hl').le (by omega)⟩, q2, q3, fun k => ?_⟩
    rw [call_own (fi := e13) rfl rfl, b13, run_succ, c13_eq]
    simp only [ev_seq, ev_cond, ev_block, ev_skip, r13_0a, alloc31, hA, bP_some, seqK_normal, seqK_exit, blockK_normal, blockK_at, r13_1a, leq_i, hle, opd_tmp, alget, Nat.reduceEqDiff, reduceIte, bB_false, bB_true, r13_3a, c1, r13_4a, eq_i, decide_true, decide_false, r13_11a, r13_17a, r13_28a, r13_29a, c2, r13_30a, r13_31a, c3, c4, r13_35a, hq, ext0, ext1, t1, r13_36a, eq_c, r13_37a, t4, q1, ev_ret, seqK_ret, blockK_ret, endK_ret, z13a, q4, consO_some, oneR_one, bQ_some]
    rfl
  · clear leaf leafEnd
    -- the tail's block
    generalize hC : hp1.new ⟨zero, 7, false, 0⟩ = hpC
    have nC : hpC.next = hp1.next + 1 := by rw [← hC]; rfl
    have kC : hpC.get hp1.next = some ⟨zero, 7, false, 0⟩ := by rw [← hC]; exact get_new_next _ _
    have gC : ∀ j, j < hp1.next → hpC.get j = hp1.get j := fun j hj => by rw [← hC]; exact new_get _ _ hj
    have qN := store31 kC rfl (v := vNil nl) rfl
    generalize hD : hpC.put hp1.next ⟨vNil nl, 7, false, 0⟩ = hpD at qN
    have nD : hpD.next = hp1.next + 1 := by rw [← hD]; exact nC
    have kD : hpD.get hp1.next = some ⟨vNil nl, 7, false, 0⟩ := by rw [← hD]; exact put_at _ kC
    have gD : ∀ j, j < hp1.next → hpD.get j = hp1.get j := fun j hj => by rw [← hD, put_ne _ _ (by omega)]; exact gC j hj
    have bD : Below (hp.next + 1) id hpA hpD := b1.trans ⟨by omega, fun j hj _ => gD j (by omega)⟩
    have sD : hpD.get id = some (src lp a1) := (gD id (by omega)).trans s1
    have hq32 := fun (g : Hp) => asked (R := R) (O := orc) (rc := run tys fnsO orc n') (f := 32) rfl (fz0 g) o32
    -- from the tail's labels on
    have tail : ∀ {hpT : Hp} {aT : Nat} {t0 t1 t2 t3 t4 t5 : PV}, hp1.next < hpT.next → hpT.get hp1.next = some ⟨[t0, t1, t2, t3, t4, t5, nl], 7, false, 0⟩ → hpT.get id = some (src lp aT) → Below (hp.next + 1) id hpA hpT → (∀ l ∈ labels, GB (B + 40) [t0, t1, t2, t3, t4, t5, l]) → (∃ r, t0 = i 5 ∨ t0 = i 7 ∧ r = ()) →
        ∃ (l : PV) (hp5 hp6 hp7 hp8 : Hp) (v T : List PV) (a8 : Nat), (∀ k, callF tys fnsO orc (run (R := R) tys fnsO orc n') 14 [.ptr id 0] hpT k = k l hp5) ∧ primStore tys hp5 29 (some (.ptr hp1.next 6)) (some l) = some (.un, hp6) ∧
          (∀ k, callF tys fnsO orc (run (R := R) tys fnsO orc n') 4 [.ptr id 0, i h] hp6 k = k (.agg v) hp7) ∧ logEff tys 3 7 ⟨[], [], []⟩ hp6 hp7 = some ⟨[], [(3, hp6)], []⟩ ∧ primLoad tys hp7 31 (some (.ptr hp1.next 0)) = some (.agg T, hp7) ∧
          logLoad tys 4 0 ⟨[], [(3, hp6)], []⟩ hp7.next (.agg T) (some (31, .ptr hp1.next 0)) = some ⟨[(4, 31, .ptr hp1.next 0, .agg T)], [(3, hp6)], []⟩ ∧ (∀ k, callF tys fnsO orc (run (R := R) tys fnsO orc n') 33 [.agg v, .agg T] hp7 k = k (.agg (vCons v T nl)) hp7) ∧
          logEff tys 5 31 ⟨[(4, 31, .ptr hp1.next 0, .agg T)], [(3, hp6)], []⟩ hp7 hp7 = some ⟨[(4, 31, .ptr hp1.next 0, .agg T)], [(5, hp7), (3, hp6)], []⟩ ∧ primStore tys hp7 31 (some (.ptr hp.next 0)) (some (.agg (vCons v T nl))) = some (.un, hp8) ∧
          logEff tys 6 63 ⟨[(4, 31, .ptr hp1.next 0, .agg T)], [(5, hp7), (3, hp6)], []⟩ hp7 hp8 = some ⟨[(4, 31, .ptr hp1.next 0, .agg T)], [(6, hp7), (5, hp7), (3, hp6)], []⟩ ∧ loadAt tys hp8 31 (.ptr hp.next 0) = some (.agg (vCons v T nl)) ∧
          NV (B + 80) (.agg (vCons v T nl)) ∧ hp8.get id = some (src lp a8) ∧ Fr id hp hp8 := by
      intro hpT aT t0 t1 t2 t3 t4 t5 hT kT sT bT hG hK
      have nT := bT.1
      obtain ⟨l, a5, hp5, hlab, s5, f5, c5⟩ := gLabels (R := R) hl hz n' (by omega) hpT id aT (by omega) sT
      have n5 := f5.1
      have k5 : hp5.get hp1.next = some ⟨[t0, t1, t2, t3, t4, t5, nl], 7, false, 0⟩ := (f5.2 _ hT (by omega)).trans kT
      have q5 := store29 k5 (cell_cells (c_labels l hlab))
      generalize h6 : hp5.put hp1.next ⟨[t0, t1, t2, t3, t4, t5, l], 7, false, 0⟩ = hp6 at q5
      have n6 : hp6.next = hp5.next := by rw [← h6]; rfl
      have k6 : hp6.get hp1.next = some ⟨[t0, t1, t2, t3, t4, t5, l], 7, false, 0⟩ := by rw [← h6]; exact put_at _ k5
      have g6 : ∀ j, j ≠ hp1.next → hp6.get j = hp5.get j := fun j hj => by rw [← h6]; exact put_ne _ _ hj
      obtain ⟨_, a7, hp7, ⟨v, rfl, hv⟩, s7, f7, c7⟩ := gv n' (by omega) hp6 id a5 (by omega) ((g6 id (by omega)).trans s5)
      have n7 := f7.1
      have k7 : hp7.get hp1.next = some ⟨[t0, t1, t2, t3, t4, t5, l], 7, false, 0⟩ := (f7.2 _ (by omega) (by omega)).trans k6
      have hT' := hG l hlab
      have hpe : peq 1000 (.agg [t0, t1, t2, t3, t4, t5, l]) (.agg [t0, t1, t2, t3, t4, t5, l]) = true := by
        show peq (999 + 1) _ _ = true
        unfold peq
        have h999 : B + 40 ≤ 999 := by omega
        exact peqL_le h999 hT'.2
      have hids : idsLt 1000 hp7.next (.agg [t0, t1, t2, t3, t4, t5, l]) = true := by
        show ([t0, t1, t2, t3, t4, t5, l] : List PV).all (idsLt 999 hp7.next) = true
        rw [List.all_eq_true]
        intro c hc
        rcases (hT'.1.cells c hc).2 with ⟨x, rfl⟩ | ⟨es, ex, rfl⟩ <;> rfl
      have L4 : logLoad tys 4 0 ⟨[], [(3, hp6)], []⟩ hp7.next (.agg [t0, t1, t2, t3, t4, t5, l]) (some (31, .ptr hp1.next 0)) = some ⟨[(4, 31, .ptr hp1.next 0, .agg [t0, t1, t2, t3, t4, t5, l])], [(3, hp6)], []⟩ := by
        show (match loadOld tys 0 31 (.ptr hp1.next 0) (.agg [t0, t1, t2, t3, t4, t5, l]) [(3, hp6)] && idsLt 1000 hp7.next (.agg [t0, t1, t2, t3, t4, t5, l]) with | true => some _ | false => none) = _
        have ho : loadOld tys 0 31 (.ptr hp1.next 0) (.agg [t0, t1, t2, t3, t4, t5, l]) [(3, hp6)] = true := by
          unfold loadOld loadOld samePV
          rw [loadAt31 k6 rfl]
          simp only [hpe, Bool.or_true, Bool.and_self]
        rw [ho, hids]
        rfl
      have bb : Below (hp.next + 1) id hpA hp7 := ((bT.trans (f5.below (by omega))).trans ⟨by omega, fun j hj _ => g6 j (by omega)⟩).trans (f7.below (by omega))
      obtain ⟨q1, q2, q3, q4⟩ := fin31A hid hA bb s7 (v := vCons v [t0, t1, t2, t3, t4, t5, l] nl) rfl
      have hkind : ∃ r, [t0, t1, t2, t3, t4, t5, l] = i 5 :: r ∨ [t0, t1, t2, t3, t4, t5, l] = i 7 :: r := by
        obtain ⟨_, rfl | ⟨rfl, _⟩⟩ := hK
        · exact ⟨_, .inl rfl⟩
        · exact ⟨_, .inr rfl⟩
      refine ⟨l, hp5, hp6, hp7, _, v, _, a7, c5, q5, c7, lgE 3 7 [] [] [] rfl rfl rfl n7, load31 k7 rfl, L4, ?_, lgE 5 31 _ _ [] (by kernel_rfl) rfl (by kernel_rfl) (Nat.le_refl _), q1, lgE 6 63 _ _ [] (by kernel_rfl) rfl (by kernel_rfl) (Nat.le_refl _), q4, ?_, q2, q3⟩
      · exact asked (R := R) (O := orc) (rc := run tys fnsO orc n') (f := 33) rfl (fzv2 hv.1 hT'.1 hp7) (o33 hv.1 hT'.1)
      · exact ⟨[i 7, i 0, sb [], slOf [v, [t0, t1, t2, t3, t4, t5, l]], nl, nl], rfl, rfl, fun l' hl' => (GB.cons (n := B + 40) (hv.le (by omega)) hT' hkind hl').le (by omega)⟩
    have nilT : ∀ l ∈ labels, GB (B + 40) [i 5, i 0, sb [], nl, nl, nl, l] := fun l hl' => (GB.nil hl').le (by omega)
    rcases (show h = 1 ∨ h = 2 by omega) with rfl | rfl
    · obtain ⟨l, hp5, hp6, hp7, hp8, v, T, a8, c5, q5, c7, L3, q7, L4, c33, L5, q8, L6, q9, hNV, s8, f8⟩ := tail (t0 := i 5) (by omega) kD sD bD nilT ⟨(), .inl rfl⟩
      refine ⟨_, a8, hp8, hNV, s8, f8, fun k => ?_⟩
      rw [call_own (fi := e13) rfl rfl, b13, run_succ, c13_eq]
      simp only [ev_seq, ev_cond, ev_block, ev_skip, r13_0a, alloc31, hA, bP_some, bLg_some, seqK_normal, blockK_normal, r13_1a, leq_i, hle, opd_tmp, alget, Nat.reduceEqDiff, reduceIte, bB_false, bB_true, r13_3a, c1, r13_4a, eq_i, decide_true, decide_false, r13_11a, r13_12a, hq32, hC, qN, r13_13a, gtr_ff _ (1 + 1) 2 (by omega), want_tf, bW_false, pick_f, r13_15b, c5, fa31 _ _ 6 (by omega), q5, r13_16a, sub_i _ (1 + 1) 1 (by omega) (by omega), Nat.add_sub_cancel, c7, L3, q7, L4, c33, L5, q8, L6, ev_ret, seqK_ret, blockK_ret, endK_ret, z13a, q9, consO_some, oneR_one, bQ_some]
    · obtain ⟨_, a2, hp2, ⟨y, hy, rfl⟩, s2, f2, c2⟩ := gNext (R := R) hl hz (m := 2) (by omega) (by omega) n' (by omega) hpD id a1 (by omega) sD
      have n2 := f2.1
      have k2 : hp2.get hp1.next = some ⟨vNil nl, 7, false, 0⟩ := (f2.2 _ (by omega) (by omega)).trans kD
      have b2 : Below (hp.next + 1) id hpA hp2 := bD.trans (f2.below (by omega))
      by_cases hy1 : y = 1
      · subst hy1
        obtain ⟨_, a3, hp3, ⟨u, rfl, hu⟩, s3, f3, c3⟩ := gv2 rfl n' (by omega) hp2 id a2 (by omega) s2
        have n3 := f3.1
        have k3 : hp3.get hp1.next = some ⟨vNil nl, 7, false, 0⟩ := (f3.2 _ (by omega) (by omega)).trans k2
        have b3 : Below (hp.next + 1) id hpA hp3 := b2.trans (f3.below (by omega))
        have hq33 := asked (R := R) (O := orc) (rc := run tys fnsO orc n') (f := 33) rfl (fzv2 hu.1 (GV.nil hnl) hp3) (o33 hu.1 (GV.nil hnl))
        have q3' := store31 k3 rfl (v := vCons u (vNil nl) nl) rfl
        generalize hE : hp3.put hp1.next ⟨vCons u (vNil nl) nl, 7, false, 0⟩ = hpE at q3'
        have nE : hpE.next = hp3.next := by rw [← hE]; rfl
        have kE : hpE.get hp1.next = some ⟨vCons u (vNil nl) nl, 7, false, 0⟩ := by rw [← hE]; exact put_at _ k3
        have gE : ∀ j, j ≠ hp1.next → hpE.get j = hp3.get j := fun j hj => by rw [← hE]; exact put_ne _ _ hj
        obtain ⟨l, hp5, hp6, hp7, hp8, v, T, a8, c5, q5, c7, L3, q7, L4, c33, L5, q8, L6, q9, hNV, s8, f8⟩ := tail (hpT := hpE) (aT := a3) (t0 := i 7) (by omega) kE ((gE id (by omega)).trans s3) (b3.trans ⟨by omega, fun j hj _ => gE j (by omega)⟩) (fun l hl' => GB.cons hu ((GB.nil hnl).le (by omega)) ⟨_, .inl rfl⟩ hl') ⟨(), .inr ⟨rfl, rfl⟩⟩
        refine ⟨_, a8, hp8, hNV, s8, f8, fun k => ?_⟩
        rw [call_own (fi := e13) rfl rfl, b13, run_succ, c13_eq]
        simp only [ev_seq, ev_cond, ev_block, ev_skip, r13_0a, alloc31, hA, bP_some, bLg_some, seqK_normal, blockK_normal, r13_1a, leq_i, hle, opd_tmp, alget, Nat.reduceEqDiff, reduceIte, bB_false, bB_true, r13_3a, c1, r13_4a, eq_i, decide_true, decide_false, r13_11a, r13_12a, hq32, hC, qN, r13_13a, gtr_tt _ (2 + 1) 2 (by omega), want_tt, bW_true, c2, pick_t, r13_14a, sub_i _ (2 + 1) 2 (by omega) (by omega), Nat.reduceAdd, Nat.reduceSub, c3, hq33, q3', r13_15a, c5, fa31 _ _ 6 (by omega), q5, r13_16a, sub_i _ (2 + 1) 1 (by omega) (by omega), Nat.add_sub_cancel, c7, L3, q7, L4, c33, L5, q8, L6, ev_ret, seqK_ret, blockK_ret, endK_ret, z13a, q9, consO_some, oneR_one, bQ_some]
      · obtain ⟨l, hp5, hp6, hp7, hp8, v, T, a8, c5, q5, c7, L3, q7, L4, c33, L5, q8, L6, q9, hNV, s8, f8⟩ := tail (hpT := hp2) (aT := a2) (t0 := i 5) (by omega) k2 s2 b2 nilT ⟨(), .inl rfl⟩
        refine ⟨_, a8, hp8, hNV, s8, f8, fun k => ?_⟩
        rw [call_own (fi := e13) rfl rfl, b13, run_succ, c13_eq]
        simp only [ev_seq, ev_cond, ev_block, ev_skip, r13_0a, alloc31, hA, bP_some, bLg_some, seqK_normal, blockK_normal, r13_1a, leq_i, hle, opd_tmp, alget, Nat.reduceEqDiff, reduceIte, bB_false, bB_true, r13_3a, c1, r13_4a, eq_i, decide_true, decide_false, r13_11a, r13_12a, hq32, hC, qN, r13_13a, gtr_tt _ (2 + 1) 2 (by omega), want_tt, bW_true, c2, hy1, pick_t, r13_15b, c5, fa31 _ _ 6 (by omega), q5, r13_16a, sub_i _ (2 + 1) 1 (by omega) (by omega), Nat.add_sub_cancel, c7, L3, q7, L4, c33, L5, q8, L6, ev_ret, seqK_ret, blockK_ret, endK_ret, z13a, q9, consO_some, oneR_one, bQ_some]
/-- values of height 3 -/
theorem value3 (hl : IsL lp zs) (hz : zs.length ≤ 60) : Gen R lp 41 4 [i 3] (LV 180) := by
  have v1 : Gen R lp 5 4 [i 1] (LV 20) := gValue hl hz (by omega) (gvalue1 hl hz)
  have v1' : Gen R lp 18 4 [i 1] (LV 100) := fun n hn hp id a h1 h2 => by
    obtain ⟨r, a', hp', ⟨v, hv, hg⟩, h3, h4, h5⟩ := v1 n (by omega) hp id a h1 h2
    exact ⟨r, a', hp', ⟨v, hv, hg.le (by omega)⟩, h3, h4, h5⟩
  have v2 : Gen R lp 18 4 [i 2] (LV 100) := gValue hl hz (by omega) (gvalue2 hl hz (h := 1) (N := 5) (B := 20) (by omega) (by omega) (by omega) (by omega) (by omega) v1 (by intro h; omega))
  have v3 : Gen R lp 31 4 [i 3] (LV 180) := gValue hl hz (by omega) (gvalue2 hl hz (h := 2) (N := 18) (B := 100) (by omega) (by omega) (by omega) (by omega) (by omega) v2 (fun _ => v1'))
  exact fun n hn => v3 n (by omega)
end
end Go.Ev.D
