/- free: the walk, clauses. -/
import Derived.Test.YtmlnfoabpcccnaaGreatEvDi
set_option linter.all false
/- free: the walk, clauses. -/
namespace Go.Ev
open Go.Proofs
open A (Str formed)
theorem lst19 {v : List PV} (h : v.length = 19) : ∃ c0 c1 c2 c3 c4 c5 c6 c7 c8 c9 d0 d1 d2 d3 d4 d5 d6 d7 d8, v = [c0, c1, c2, c3, c4, c5, c6, c7, c8, c9, d0, d1, d2, d3, d4, d5, d6, d7, d8] := by
  rcases v with _ | ⟨c0, _ | ⟨c1, _ | ⟨c2, _ | ⟨c3, _ | ⟨c4, _ | ⟨c5, _ | ⟨c6, _ | ⟨c7, _ | ⟨c8, v⟩⟩⟩⟩⟩⟩⟩⟩⟩ <;> try (simp at h; done)
  obtain ⟨d0, d1, d2, d3, d4, d5, d6, d7, d8, d9, rfl⟩ := lst10 (v := v) (by simpa using h)
  exact ⟨_, _, _, _, _, _, _, _, _, _, _, _, _, _, _, _, _, _, _, rfl⟩
def z86 : List PV := y86.zero.map .v
theorem alloc86 (hp : Hp) : primAlloc tys hp 86 = some (.ptr hp.next 0, hp.new ⟨z86, 19, false, 0, 86⟩) := _root_.id rfl
theorem store86 {hp : Hp} {a : Nat} {v : List PV} (hv : v.length = 19) (h : hp.get a = some ⟨z86, 19, false, 0, 86⟩) : primStore tys hp 86 (some (.ptr a 0)) (some (.agg v)) = some (.un, hp.put a ⟨v, 19, false, 0, 86⟩) := by
  obtain ⟨c0, c1, c2, c3, c4, c5, c6, c7, c8, c9, d0, d1, d2, d3, d4, d5, d6, d7, d8, rfl⟩ := lst19 hv
  show stored (match hp.get a with | none => none | some b => match sizeT tys 86 with | none => none | some sz => match pvCells (.agg [c0, c1, c2, c3, c4, c5, c6, c7, c8, c9, d0, d1, d2, d3, d4, d5, d6, d7, d8]) with | none => none | some xs => storeIn hp a 0 b xs sz) = _
  rw [h]
  rfl
theorem loadAt86 {hp : Hp} {a : Nat} {v : List PV} (hv : v.length = 19) (h : hp.get a = some ⟨v, 19, false, 0, 86⟩) : loadAt tys hp 86 (.ptr a 0) = some (.agg v) := by
  obtain ⟨c0, c1, c2, c3, c4, c5, c6, c7, c8, c9, d0, d1, d2, d3, d4, d5, d6, d7, d8, rfl⟩ := lst19 hv
  show (match hp.get a with | none => none | some b => partOf tys 86 b.cells 0) = _
  rw [h]
  rfl
theorem loadBody {hp : Hp} {a : Nat} {v : List PV} (hv : v.length = 19) (h : hp.get a = some ⟨v, 19, false, 0, 86⟩) : loadAt tys hp 30 (.ptr a 8) = some (.agg (body v)) := by
  obtain ⟨c0, c1, c2, c3, c4, c5, c6, c7, c8, c9, d0, d1, d2, d3, d4, d5, d6, d7, d8, rfl⟩ := lst19 hv
  show (match hp.get a with | none => none | some b => partOf tys 30 b.cells 8) = _
  rw [h]
  rfl
theorem fa86_2 (hp : Hp) (b : Nat) : primFieldAddr tys hp 86 2 (some (.ptr b 0)) = some (.ptr b 8, hp) := _root_.id rfl
theorem load_of {hp : Hp} {t : Nat} {p v : PV} (h : loadAt tys hp t p = some v) : primLoad tys hp t (some p) = some (v, hp) := by
  show ret1 hp (loadAt tys hp t p) = _
  rw [h]; rfl
theorem at25 {p : PV} {ks : List (List PV)} (h : Ls p ks) (hp : Hp) {j : Nat} {k : List PV} (hj : ks[j]? = some k) (hk : k.length = 19) : ∃ a, primIndexAddr tys hp 25 (some p) (some (i j)) = some (a, hp) ∧ primLoad tys hp 86 (some a) = some (.agg k, hp) := by
  rcases h with ⟨rfl, rfl⟩ | ⟨ex, rfl⟩
  · cases hj
  · obtain ⟨c0, c1, c2, c3, c4, c5, c6, c7, c8, c9, d0, d1, d2, d3, d4, d5, d6, d7, d8, rfl⟩ := lst19 hk
    refine ⟨.ep [c0, c1, c2, c3, c4, c5, c6, c7, c8, c9, d0, d1, d2, d3, d4, d5, d6, d7, d8] 0, ?_, rfl⟩
    show ret1 hp (idxSl 19 (.sl ks ex) j) = _
    unfold idxSl
    simp only [hj]
    rfl
theorem lgL (i m : Nat) {ld : List (Nat × TypeId × PV × PV)} {ef : List (Nat × Hp)} {al : List Nat} (n : Nat) {x : PV} (t : TypeId) (id off : Nat) (ho : loadOld tys m t (.ptr id off) x ef = true) (hx : idsLt 1000 n x = true) : logLoad tys i m ⟨ld, ef, al⟩ n x (some (t, .ptr id off)) = some ⟨(i, t, .ptr id off, x) :: ld, ef, al⟩ := by
  show (match loadOld tys m t (.ptr id off) x ef && idsLt 1000 n x with | true => some _ | false => none) = _
  rw [hx, ho]
  rfl
theorem lgE (i m : Nat) (ld : List (Nat × TypeId × PV × PV)) (ef : List (Nat × Hp)) (al : List Nat) {h h' : Hp} (h1 : effsIn m ef = true) (h2 : allocsIn m al = true) (h3 : loadsKept tys m h' ld = true) (h4 : h.next ≤ h'.next) : logEff tys i m ⟨ld, ef, al⟩ h h' = some ⟨ld, (i, h) :: ef, al⟩ := by
  unfold logEff
  simp only [h1, h2, h3, Nat.ble_eq_true_of_le h4, Bool.and_self]
theorem kept1 (m i t : Nat) (p x : PV) (h : Hp) (r : List (Nat × TypeId × PV × PV)) (hr : loadsKept tys m h r = true) (hl : loadAt tys h t p = some x) (hx : peq 1000 x x = true) : loadsKept tys m h ((i, t, p, x) :: r) = true := by
  unfold loadsKept samePV
  rw [hl, hr]
  simp only [hx, Bool.or_true, Bool.and_self]
theorem keptM (m i t : Nat) (p x : PV) (h : Hp) (r : List (Nat × TypeId × PV × PV)) (hr : loadsKept tys m h r = true) (hm : m.testBit i = true) : loadsKept tys m h ((i, t, p, x) :: r) = true := by
  unfold loadsKept
  rw [hm, hr]
  rfl
theorem Post.weakI {n m : Nat} {S T : List UInt8 → Prop} {I J : List (List UInt8)} {hp hp1 : Hp} {out out1 : PV} {O O1 : List (List UInt8)} (h : Post n S J hp out O hp1 out1 O1) (hn : n ≤ m) (hs : ∀ s, T s → s ∉ I → S s ∧ s ∉ J) : Post m T I hp out O hp1 out1 O1 :=
  ⟨h.acc, h.nxt, h.fr, h.own, h.sub, fun s g hi => h.fv s (hs s g hi).1 (hs s g hi).2, Nat.le_trans h.len (by omega)⟩
namespace A
theorem iff_t' {c : Prop} (h : c) {x y : Option PV} : iff c x y = x := iff_t h x y
theorem frz_one {c : List PV} (h : ∀ x ∈ c, formed x) (hl : c.length = 19) (hp : Hp) : freezeL deepN hp [.agg c] = some ([.agg c], hp) := by
  have e := freeze_agg h (n := 999999999997) (by omega) hp
  show (match freeze (999999999997 + 2) hp (.agg c) with | none => none | some (y, h) => match freezeL (999999999997 + 2) h [] with | none => none | some (ys, h') => some (y :: ys, h')) = _
  rw [e]
  rfl
theorem frz_wh {p : PV} (h : formed p) (hp : Hp) : freezeL deepN hp [.agg (wh p)] = some ([.agg (wh p)], hp) := by
  have e := freeze_agg (X := wh p) (fun c hc => by
    simp only [wh, List.mem_cons, List.not_mem_nil, or_false] at hc
    rcases hc with rfl | rfl | rfl | rfl | rfl
    · exact ⟨.inl ⟨_, rfl⟩, rfl⟩
    · exact ⟨.inl ⟨_, rfl⟩, rfl⟩
    · exact ⟨.inl ⟨_, rfl⟩, rfl⟩
    · exact h
    · exact ⟨.inl ⟨_, rfl⟩, rfl⟩) (n := 999999999997) (by simp [wh]) hp
  show (match freeze (999999999997 + 2) hp (.agg (wh p)) with | none => none | some (y, h) => match freezeL (999999999997 + 2) h [] with | none => none | some (ys, h') => some (y :: ys, h')) = _
  rw [e]
  rfl
end A
section
variable [E : Env]
theorem ls_is (vs : List (List UInt8)) (hp : Hp) : IsLs 9 1 hp (lsP vs) (tx vs) := by
  cases vs with
  | nil => exact .inl (AccS.nil 9 1 hp)
  | cons v r => exact .inr ⟨fun e he => by
      obtain ⟨t, _, rfl⟩ := List.mem_map.1 he
      rfl, false, rfl⟩
theorem free_clauses {n : Nat} (hn : n ≤ 16) {cp inner : PV} {I : List (List UInt8)} {cs : List (List PV)} (hk : Ls cp cs) (hcl : ∀ c ∈ cs, Cl c) (hb : ∀ c ∈ cs, Et n (body c)) (hl : cs.length ≤ 2) (ih : ∀ c ∈ cs, FreeOk n (body c)) :
    ∀ (m j f : Nat) (out : PV) (O : List (List UInt8)) (hp : Hp), cs.length = j + m → 10 * n + I.length + 12 + m ≤ f → AccS 9 1 hp inner (tx I) → AccS 9 1 hp out (tx O) → Apart inner out → I.length + (n + 1) ≤ 1000 → O.length + m * VV n ≤ 100000000000 →
    ∃ out1 O1 hp1, (∀ k : Ex → St → Option PV, evC tys e17s l17s_1 (callF tys fnsV orcF (run tys fnsV orcF f)) (run tys fnsV orcF f) ⟨[(1, inner), (2, out), (39, cp), (40, i cs.length), (41, i j)], hp⟩ k =
      k (.exit 2) ⟨[(1, inner), (2, out1), (39, cp), (40, i cs.length), (41, i cs.length), (42, .v (.bool false))], hp1⟩) ∧ Post (m * VV n) (fun s => ∃ c ∈ cs.drop j, ∃ p, c[0]? = some p ∧ Fv (body c) s ∧ ¬ PatStr p s) I hp out O hp1 out1 O1 := by
  intro m
  induction m with
  | zero =>
    intro j f out O hp hm hf hi ho ha hI hO
    obtain rfl : j = cs.length := by omega
    refine ⟨out, O, hp, fun k => ?_, (Post.refl ho).weak (by omega) fun s hs hi => ?_⟩
    · simp only [l17s_1_eq, ev_loop, ev_seq, r17s_9a, primBin_eq, bin_int, int_lss, ofNat_ble, Nat.ble_eq_true_of_le (Nat.le_refl _), Bool.not_true, ret1_some', bP_some, seqK_normal, ev_cond, opd_tmp, alget, Nat.reduceEqDiff, reduceIte, bB_false, ev_exit, seqK_exit]
    · rw [List.drop_length] at hs
      obtain ⟨k, hk, _⟩ := hs
      cases hk
  | succ m ihm =>
    intro j f out O hp hm hf hi ho ha hI hO
    rw [Nat.add_mul, Nat.one_mul] at hO
    obtain ⟨f, rfl⟩ : ∃ g, f = g + 1 := ⟨f - 1, by omega⟩
    have hlt : Nat.ble cs.length j = false := by rw [Bool.eq_false_iff]; intro e; have := Nat.le_of_ble_eq_true e; omega
    obtain ⟨c, hu⟩ : ∃ u, cs[j]? = some u := ⟨_, List.getElem?_eq_getElem (by omega)⟩
    have hmem := List.mem_of_getElem? hu
    have C := hcl c hmem
    obtain ⟨a, h1, h2⟩ := at25 hk hp hu C.len
    have hadd := int_add64 j 1 (by omega)
    obtain ⟨p, r, hcp, k37, hP⟩ := C.pat
    have hbf := (hb c hmem).facts
    -- what the patterns bind
    obtain ⟨vs, hv36, hv1, hv2⟩ : ∃ vs, orcF 36 [.agg (wh p)] = some (lsP vs) ∧ vs.length ≤ 1 ∧ ∀ v ∈ vs, PatStr p v := by
      refine ⟨Classical.choose hP, ?_, (Classical.choose_spec hP).1, (Classical.choose_spec hP).2.1⟩
      show @dite _ (∃ vs, P36 (wh p) p vs) (Classical.propDecidable _) (fun h => some (lsP (Classical.choose h))) (fun _ => none) = _
      rw [dif_pos hP]
    have hv37 : orcF 37 [.agg c] = some (.agg (wh p)) := by
      rw [hcp] at k37 ⊢
      exact A.iff_t' k37
    -- the clause's box
    obtain ⟨hp2, st1, hbox, hnx1, hold⟩ : ∃ hp2, primStore tys (hp.new ⟨z86, 19, false, 0, 86⟩) 86 (some (.ptr hp.next 0)) (some (.agg c)) = some (.un, hp2) ∧ hp2.get hp.next = some ⟨c, 19, false, 0, 86⟩ ∧ hp.next + 1 = hp2.next ∧ ∀ j, j < hp.next → hp2.get j = hp.get j :=
      ⟨_, store86 C.len (get_new_next _ _), put_new _ _ _, rfl, fun j hj => by rw [get_put_ne _ _ (by omega), get_new_ne _ _ (by omega)]⟩
    have hnx : hp.next ≤ hp2.next := by omega
    have hi2 := hi.over hnx hold
    have ho2 := ho.over hnx hold
    -- the variables around, once more
    obtain ⟨y3, hp3, g1, g2, g3, g4, g5, g6⟩ := (AccS.nil 9 1 hp2).apps sl32 (.inl hi2) (by simp; omega)
    rw [List.nil_append] at g2
    have fr3 : ∀ j, j < hp2.next → hp3.get j = hp2.get j := fun j hj => g6 j hj (fun _ _ _ _ e => by cases e)
    have y3low : ∀ q o l c s, y3 = .row q o l c s → q = hp2.next := fun q o l c s e => by
      by_cases hq : tx I = []
      · rw [(g4 hq).1] at e; cases e
      · obtain ⟨m, hm⟩ := g5 hq
        rw [hm] at e; cases e; rfl
    have box3 : hp3.get hp.next = some ⟨c, 19, false, 0, 86⟩ := (fr3 _ (by omega)).trans hbox
    obtain ⟨y7, hp7, q1, q2, q3, q4, q5, q6⟩ := g2.apps sl32 (ls_is vs hp3) (by simp; omega)
    have fr7 : ∀ j, j < hp2.next → hp7.get j = hp2.get j := fun j hj => by
      rw [q6 j (by omega) (fun o l c s e => by have := y3low j o l c s e; omega), fr3 j hj]
    have box7 : hp7.get hp.next = some ⟨c, 19, false, 0, 86⟩ := (fr7 _ (by omega)).trans hbox
    have y7low : ∀ q o l c s, y7 = .row q o l c s → hp2.next ≤ q := fun q o l c s e => by
      by_cases hq : tx vs = []
      · rw [(q4 hq).1] at e; have := y3low q o l c s e; omega
      · obtain ⟨m, hm⟩ := q5 hq
        rw [hm] at e; cases e; exact g3
    have hi7 := hi2.over (hp' := hp7) (by omega) fr7
    have ho7 := ho2.over (hp' := hp7) (by omega) fr7
    have hap : Apart y7 out := fun q o l c s o' l' c' s' e e' => by
      have := y7low q o l c s e
      have := ho2.low e'
      omega
    have q2' : AccS 9 1 hp7 y7 (tx (I ++ vs)) := by rw [show tx (I ++ vs) = tx I ++ tx vs by simp]; exact q2
    obtain ⟨out1, O1, hp9, c17, p1⟩ := ih c hmem (f + 1) y7 out (I ++ vs) O hp7 (by simp; omega) q2' ho7 hap (by simp; omega) (by omega)
    have p1' := p1.ahead (hp0 := hp) (by omega) (fun j hj => by rw [fr7 j (by omega), hold j hj])
    have hi9 : AccS 9 1 hp9 inner (tx I) := hi7.stay ha p1.nxt p1.fr
    obtain ⟨out2, O2, hp10, c2, p2⟩ := ihm (j + 1) f out1 O1 hp9 (by omega) (by omega) hi9 p1.acc (p1.apart hi7 ha) hI (by have := p1.len; omega)
    have pq := p1'.weakI (m := VV n) (T := fun s => Fv (body c) s ∧ ¬ PatStr p s) (I := I) (Nat.le_refl _) fun s hs hi => ⟨hs.1, fun h => by
      rcases List.mem_append.1 h with h | h
      · exact hi h
      · exact hs.2 (hv2 s h)⟩
    refine ⟨out2, O2, hp10, fun k => ?_, (pq.trans p2).weak (by rw [Nat.add_mul, Nat.one_mul]; omega) fun s hs hi => ?_⟩
    · have c17' : ∀ K : PV → Hp → Option PV, callF tys fnsV orcF (run tys fnsV orcF (f + 1)) 17 [.agg (body c), y7, out] hp7 K = K out1 hp9 := fun K => by
        rw [call_own fnsV17 rfl rfl rfl rfl]; exact c17 K
      have c37 : ∀ (h : Hp) (K : PV → Hp → Option PV), callF tys fnsV orcF (run tys fnsV orcF (f + 1)) 37 [.agg c] h K = K (.agg (wh p)) h := fun h K =>
        call_asked rfl (A.frz_one C.fm C.len h) hv37
      have c36 : ∀ (h : Hp) (K : PV → Hp → Option PV), callF tys fnsV orcF (run tys fnsV orcF (f + 1)) 36 [.agg (wh p)] h K = K (lsP vs) h := fun h K =>
        call_asked rfl (A.frz_wh (by
          have := C.fm p (by rw [hcp]; exact List.mem_cons_self ..)
          exact this) h) hv36
      have rb : peq 1000 (.agg (body c)) (.agg (body c)) = true := Rf.agg hbf.2.2 1000 (by have := QQ_le hn; rw [hbf.1]; omega)
      have rc : peq 1000 (.agg c) (.agg c) = true := by
        have : ∀ x ∈ c, Rf (QQ n) x := by
          have hq : 20 ≤ QQ n := by
            cases n with
            | zero => exact Nat.le_refl _
            | succ n =>
              have : ∀ n, 20 ≤ QQ n := fun n => by
                induction n with
                | zero => exact Nat.le_refl _
                | succ n ih => rw [QQ]; omega
              exact this _
          intro x hx
          rw [clause_cut C.len] at hx
          rcases List.mem_append.1 hx with hx | hx
          · exact (C.rf x (List.mem_append_left _ hx)).mono hq
          rcases List.mem_append.1 hx with hx | hx
          · exact hbf.2.2 x hx
          · exact (C.rf x (List.mem_append_right _ hx)).mono hq
        exact Rf.agg this 1000 (by have := QQ_le hn; rw [C.len]; omega)
      have ib := ids_agg hbf.2.1
      have ic := ids_agg C.fm
      have L1 := lgL 1 1 (ld := []) (ef := []) (al := []) hp2.next 30 hp.next 8 rfl (ib hp2.next)
      have L3 := lgE 3 4 [(1, 30, .ptr hp.next 8, .agg (body c))] [] [] (h := hp2) (h' := hp3) rfl rfl (kept1 _ _ _ _ _ _ [] rfl (loadBody C.len box3) rb) g3
      have L4 := lgL 4 0 (ld := [(1, 30, .ptr hp.next 8, .agg (body c))]) (ef := [(3, hp2)]) (al := []) hp3.next 86 hp.next 0 (by
        unfold loadOld loadOld samePV
        rw [loadAt86 C.len hbox]
        simp only [rc, Bool.or_true, Bool.and_self]) (ic hp3.next)
      have L5 := lgE 5 28 [(4, 86, .ptr hp.next 0, .agg c), (1, 30, .ptr hp.next 8, .agg (body c))] [(3, hp2)] [] (h := hp3) (h' := hp3) (by kernel_rfl) rfl (keptM _ _ _ _ _ _ _ (kept1 _ _ _ _ _ _ [] rfl (loadBody C.len box3) rb) (by kernel_rfl)) (Nat.le_refl _)
      have L6 := lgE 6 60 [(4, 86, .ptr hp.next 0, .agg c), (1, 30, .ptr hp.next 8, .agg (body c))] [(5, hp3), (3, hp2)] [] (h := hp3) (h' := hp3) (by kernel_rfl) rfl (keptM _ _ _ _ _ _ _ (kept1 _ _ _ _ _ _ [] rfl (loadBody C.len box3) rb) (by kernel_rfl)) (Nat.le_refl _)
      have L7 := lgE 7 124 [(4, 86, .ptr hp.next 0, .agg c), (1, 30, .ptr hp.next 8, .agg (body c))] [(6, hp3), (5, hp3), (3, hp2)] [] (h := hp3) (h' := hp7) (by kernel_rfl) rfl (keptM _ _ _ _ _ _ _ (kept1 _ _ _ _ _ _ [] rfl (loadBody C.len box7) rb) (by kernel_rfl)) q3
      have L9 := lgE 9 511 [(4, 86, .ptr hp.next 0, .agg c), (1, 30, .ptr hp.next 8, .agg (body c))] [(7, hp3), (6, hp3), (5, hp3), (3, hp2)] [] (h := hp7) (h' := hp9) (by kernel_rfl) rfl (keptM _ _ _ _ _ _ _ (keptM _ _ _ _ _ _ [] rfl (by kernel_rfl)) (by kernel_rfl)) p1.nxt
      simp only [l17s_1_eq, ev_loop, ev_seq, r17s_9a, primBin_eq, bin_int, int_lss, ofNat_ble, hlt, Bool.not_false, ret1_some', bP_some, seqK_normal, ev_cond, opd_tmp, alget, Nat.reduceEqDiff, reduceIte, bB_true, ev_skip, ev_block, r17s_10a, h1, h2, alloc86, st1,
        r17s_11a, fa86_2, load_of (loadBody C.len hbox), L1, bLg_some, g1, L3, load_of (loadAt86 C.len box3), L4, c37, L5, c36, L6, q1, L7, c17', L9, blockK_normal, r17s_12a, hadd]
      rw [run_succ]
      have := c2 k
      simp only [l17s_1_eq] at this
      exact this
    · obtain ⟨w, hw, hfv⟩ := hs
      obtain ⟨g1, g2⟩ := List.getElem?_eq_some_iff.1 hu
      rw [List.drop_eq_getElem_cons g1, g2] at hw
      rcases List.mem_cons.1 hw with rfl | hw
      · obtain ⟨p', e', f1, f2⟩ := hfv
        rw [hcp] at e'
        cases e'
        exact .inl ⟨f1, f2⟩
      · exact .inr ⟨w, hw, hfv⟩
end
end Go.Ev

/- free: the walk, all of it. -/
namespace Go.Ev
open Go.Proofs
open A (Str formed)
section
variable [E : Env]
theorem free_ok {n : Nat} {X : List PV} (h : Et n X) : n ≤ 16 → FreeOk n X := by
  induction h with
  | @mk n kd t c1 c2 kp ky cp ty c8 c9 ks cs h1 h2 h3 h4 h5 h6 h7 h8 h9 ih1 ih2 =>
    intro hn f inner out I O hp hf hi ho ha hI hO
    obtain ⟨f, rfl⟩ : ∃ g, f = g + 1 := ⟨f - 1, by omega⟩
    have hV := VV_le (show n ≤ 16 by omega)
    have hO' : O.length + (1 + 4 * VV n) ≤ 100000000000 := hO
    generalize hX : [i kd, c1, c2, Str t, kp, ky, cp, ty, c8, c9] = X at *
    have hX10 : X.length = 10 := by rw [← hX]; rfl
    -- the expression's box
    have hold : ∀ j, j < hp.next → (hp.new ⟨X, 10, false, 0, 30⟩).get j = hp.get j := fun j hj => get_new_ne _ _ (by omega)
    have hnx : hp.next + 1 = (hp.new ⟨X, 10, false, 0, 30⟩).next := rfl
    have hbox : (hp.new ⟨X, 10, false, 0, 30⟩).get hp.next = some ⟨X, 10, false, 0, 30⟩ := get_new_next _ _
    have e0 := box30 hp hX10
    generalize hp.new ⟨X, 10, false, 0, 30⟩ = hp0 at *
    have hi0 := hi.over (hp' := hp0) (by omega) hold
    have ho0 := ho.over (hp' := hp0) (by omega) hold
    have nob : ∀ {o : PV} {O : List (List UInt8)} {h : Hp}, AccS 9 1 h o (tx O) → h.next ≤ hp.next → ∀ a l c s, o ≠ .row hp.next a l c s := fun g hh a l c s e => by have := g.low e; omega
    obtain ⟨out1, O1, hp1, e1, p1⟩ := free_head (f := f) (b := hp.next) (kd := kd) (t := t) (c1 := c1) (c2 := c2) (kp := kp) (ky := ky) (cp := cp) (ty := ty) (c8 := c8) (c9 := c9) (by omega) (by omega) (by omega) (by rw [hX]; exact hbox) (by omega) (nob ho (Nat.le_refl _)) h3 (h1 _ (by simp)) hi0 ho0
    have hi1 := hi0.stay ha p1.nxt p1.fr
    have ha1 := p1.apart hi0 ha
    have l1 := p1.len
    have m1 : ks.length * VV n ≤ 2 * VV n := Nat.mul_le_mul_right _ h4
    have m2 : cs.length * VV n ≤ 2 * VV n := Nat.mul_le_mul_right _ h7
    obtain ⟨out2, O2, hp2, e2, p2⟩ := free_kids (n := n) (b := hp.next) h3 (fun k hk => (h5 k hk).facts.1) h4 (fun k hk => ih1 k hk (by omega)) ks.length 0 f out1 O1 hp1 (by omega) (by omega) hi1 p1.acc ha1 (by omega) (by omega)
    have hi2 := hi1.stay ha1 p2.nxt p2.fr
    have ha2 := p2.apart hi1 ha1
    have l2 := p2.len
    obtain ⟨out3, O3, hp3, e3, p3⟩ := free_clauses (n := n) (by omega) h6 h8 h9 h7 (fun c hc => ih2 c hc (by omega)) cs.length 0 f out2 O2 hp2 (by omega) (by omega) hi2 p2.acc ha2 (by omega) (by omega)
    rw [List.drop_zero] at p2 p3
    have pq := ((p1.ahead (hp0 := hp) (by omega) hold).trans p2).trans p3
    have b2 : hp2.get hp.next = some ⟨X, 10, false, 0, 30⟩ := by
      have q := (p1.trans p2).fr hp.next (by omega) (nob ho (Nat.le_refl _))
      rw [q]; exact hbox
    refine ⟨out3, O3, hp3, fun k => ?_, pq.weak (by show _ ≤ 1 + 4 * VV n; omega) fun s hs hi => ?_⟩
    · rw [b17s, run_succ, c17s_eq]
      have lcp : primLoad tys hp2 25 (some (.ptr hp.next 6)) = some (cp, hp2) := load_cell (i := y25) rfl rfl b2 (by rw [← hX]; rfl)
      rw [ev_seq]
      simp only [r17s_0a, e0, bP_some, seqK_normal]
      rw [ev_seq]
      let K2 : Ex → St → Option PV := seqK (fun st => evC tys e17s (.seq (.seq r17s_8 (.block 2 l17s_1)) (.seq r17s_13 .ret)) (callF tys fnsV orcF (run tys fnsV orcF f)) (run tys fnsV orcF f) st (endK tys e17s.fn k)) (endK tys e17s.fn k)
      refine Eq.trans (e1 (seqK (fun st => evC tys e17s (.block 0 l17s_0) (callF tys fnsV orcF (run tys fnsV orcF f)) (run tys fnsV orcF f) st K2) K2) (endK tys e17s.fn k)) ?_
      simp only [seqK_normal, ev_block]
      rw [e2]
      simp only [K2, blockK_at, reduceIte, seqK_normal, ev_seq, r17s_8a, fa30_6, lcp, bP_some, (lenLs h6 hp2).2, ev_block]
      rw [e3]
      simp only [blockK_at, reduceIte, seqK_normal, ev_seq, r17s_13a, ev_ret, seqK_ret, endK_ret, z17sa, consO_some, oneR_one, bQ_some]
    · rw [← hX] at hs
      cases hs with
      | var g1 g2 =>
        refine .inl (.inl ⟨?_, ?_⟩)
        · simp at g1; omega
        · simp at g2; exact g2.symm
      | kid g1 g2 g3 =>
        refine .inl (.inr ⟨_, ?_, g3⟩)
        rcases h3 with ⟨rfl, _⟩ | ⟨ex, rfl⟩
        · simp at g1
        · simp at g1; rw [g1.1]; exact g2
      | bod g1 g2 g3 g4 g5 =>
        refine .inr ⟨_, ?_, _, g3, g4, g5⟩
        rcases h6 with ⟨rfl, _⟩ | ⟨ex, rfl⟩
        · simp at g1
        · simp at g1; rw [g1.1]; exact g2
end
end Go.Ev

/- Sorted: the walk. -/
namespace Go.Ev
open Go.Proofs
open A (Str formed)
theorem at32' {hp : Hp} {x : PV} {l : List (List UInt8)} (h : IsLs 9 1 hp x (tx l)) {j : Nat} {t : List UInt8} (hj : l[j]? = some t) : ∃ a, primIndexAddr tys hp 32 (some x) (some (i j)) = some (a, hp) ∧ primLoad tys hp 9 (some a) = some (Str t, hp) ∧
    ∀ (q m : Nat) (ld : List (Nat × TypeId × PV × PV)) (n : Nat), ∃ ld', logLoad tys q m ⟨ld, [], []⟩ n (Str t) (some (9, a)) = some ⟨ld', [], []⟩ := by
  have hlt : j < l.length := (List.getElem?_eq_some_iff.1 hj).1
  rcases h with ⟨h1, ⟨rfl, h2⟩ | ⟨id, rfl, h2, h3⟩⟩ | ⟨h1, ex, rfl⟩
  · have : l = [] := by simpa using h2
    subst this
    cases hj
  · refine ⟨.ptr id (0 + j * 1), ?_, ?_, fun q m ld n => ⟨_, rfl⟩⟩
    · show ret1 hp (match Nat.blt j (tx l).length with | false => none | true => some (PV.ptr id (0 + j * 1))) = _
      have : Nat.blt j (tx l).length = true := Nat.ble_eq_true_of_le (by rw [List.length_map]; omega)
      rw [this]
      rfl
    · have hc : (tx l).flatten[0 + j * 1]? = some (Str t) := by
        rw [show 0 + j * 1 = j by omega, get_flat, hj]; rfl
      exact load_cell (i := y9) rfl rfl h3 hc
  · refine ⟨.ep [Str t] 0, ?_, rfl, fun q m ld n => ⟨ld, rfl⟩⟩
    show ret1 hp (idxSl 1 (.sl (tx l) ex) j) = _
    unfold idxSl
    simp only [List.getElem?_map, hj, Option.map_some]
    rfl
theorem takeN_le {α : Type} : ∀ {l : List α} {n : Nat}, n ≤ l.length → takeN l n = some (l.take n)
  | l, 0, _ => by cases l <;> rfl
  | [], n + 1, h => by simp at h
  | x :: l, n + 1, h => by
    show (match takeN l n with | none => none | some r => some (x :: r)) = _
    rw [takeN_le (l := l) (by simpa using h)]
    rfl
theorem flat_tx (l : List (List UInt8)) : (tx l).flatten = l.map Str := flatten_one Str l
theorem tx_len (l : List (List UInt8)) : (tx l).length = l.length := List.length_map ..
theorem prim_slice {p q : PV} {lo hi : Option PV} (h : sliceOf tys 32 p lo hi none = some q) (g : Hp) : primSlice tys g 32 (some p) (some lo) (some hi) (some none) = some (q, g) := by
  show ret1 g (sliceOf tys 32 p lo hi none) = _
  rw [h]; rfl
/-- the first of a list -/
theorem slice_lo {hp : Hp} {x : PV} {l : List (List UInt8)} (h : AccS 9 1 hp x (tx l)) {k : Nat} (hk : k ≤ l.length) : ∃ y, (∀ g, primSlice tys g 32 (some x) (some none) (some (some (i k))) (some none) = some (y, g)) ∧ srcCells hp 1 y = some ((tx (l.take k)).length, (tx (l.take k)).flatten) := by
  rcases h.2 with ⟨rfl, h2⟩ | ⟨id, rfl, h2, h3⟩
  · have : l = [] := by simpa using h2
    subst this
    have hk0 : k = 0 := by simpa using hk
    subst hk0
    exact ⟨nl, prim_slice (by rfl), rfl⟩
  · rw [tx_len]
    have e1 : sliceOf tys 32 (.row id 0 l.length l.length 1) none (some (i k)) none = match Nat.beq l.length 0 with | true => some (.sl [] false) | false => some (.row id (0 + 0 * 1) (k - 0) (l.length - 0) 1) := by
      show (match Nat.beq 1 1 with | false => none | true => sliceRow 1 id 0 l.length l.length none (some (i k)) none) = _
      simp only [Nat.beq_refl, sliceRow, bound, Nat.ble_eq_true_of_le hk]
      first | done | rfl
    rw [tx_len, flat_tx]
    cases hz : Nat.beq l.length 0 with
    | true =>
      have hl := Nat.eq_of_beq_eq_true hz
      have : l = [] := List.length_eq_zero_iff.1 hl
      subst this
      have hk0 : k = 0 := by simpa using hk
      subst hk0
      rw [hz] at e1
      exact ⟨_, prim_slice e1, rfl⟩
    | false =>
      rw [hz] at e1
      refine ⟨_, prim_slice e1, ?_⟩
      show (match Nat.beq 1 1 with | false => none | true => match hp.get id with | none => none | some b => match cut b.cells (0 + 0 * 1) ((k - 0) * 1) with | none => none | some r => some (k - 0, r)) = _
      rw [h3]
      simp only [Nat.beq_refl, Nat.sub_zero, Nat.mul_one, Nat.zero_mul, Nat.add_zero, cut, List.drop_zero, flat_tx]
      rw [takeN_le (by rw [List.length_map]; exact hk), List.length_take, Nat.min_eq_left hk, List.map_take]
/-- the rest of a list -/
theorem slice_hi {x : PV} {l : List (List UInt8)} {hp0 : Hp} (h0 : AccS 9 1 hp0 x (tx l)) {k : Nat} (hk : k ≤ l.length) : ∃ y, (∀ g, primSlice tys g 32 (some x) (some (some (i k))) (some none) (some none) = some (y, g)) ∧
    ∀ hp, AccS 9 1 hp x (tx l) → srcCells hp 1 y = some ((tx (l.drop k)).length, (tx (l.drop k)).flatten) := by
  rcases h0.2 with ⟨rfl, h2⟩ | ⟨id, rfl, _, _⟩
  · have : l = [] := by simpa using h2
    subst this
    have hk0 : k = 0 := by simpa using hk
    subst hk0
    exact ⟨nl, prim_slice (by rfl), fun _ _ => rfl⟩
  · rw [tx_len]
    have e1 : sliceOf tys 32 (.row id 0 l.length l.length 1) (some (i k)) none none = match Nat.beq l.length k with | true => some (.sl [] false) | false => some (.row id (0 + k * 1) (l.length - k) (l.length - k) 1) := by
      show (match Nat.beq 1 1 with | false => none | true => sliceRow 1 id 0 l.length l.length (some (i k)) none none) = _
      simp only [Nat.beq_refl, sliceRow, bound, Nat.ble_eq_true_of_le hk]
      first | done | rfl
    cases hz : Nat.beq l.length k with
    | true =>
      have hl := Nat.eq_of_beq_eq_true hz
      subst hl
      rw [hz] at e1
      refine ⟨_, prim_slice e1, fun hp _ => ?_⟩
      rw [List.drop_length]; rfl
    | false =>
      rw [hz] at e1
      refine ⟨_, prim_slice e1, fun hp h => ?_⟩
      rcases h.2 with ⟨e, _⟩ | ⟨id', e, _, h3⟩
      · cases e
      · rw [tx_len] at e
        cases e
        show (match Nat.beq 1 1 with | false => none | true => match hp.get id with | none => none | some b => match cut b.cells (0 + k * 1) ((l.length - k) * 1) with | none => none | some r => some (l.length - k, r)) = _
        rw [h3]
        simp only [Nat.beq_refl, Nat.mul_one, Nat.zero_add, cut, flat_tx]
        rw [takeN_le (by rw [List.length_drop, List.length_map]; exact Nat.le_refl _), tx_len, List.length_drop]
        simp only [List.map_drop, List.take_of_length_le (show ((l.map Str).drop k).length ≤ l.length - k by rw [List.length_drop, List.length_map]; exact Nat.le_refl _)]
section
variable {R : Type}
theorem lss9 (hp : Hp) (a b : List UInt8) : primBin tys hp .lss 9 (some (Str a)) (some (Str b)) = some (.v (.bool (bytesLt a b)), hp) := _root_.id rfl
theorem sort_in (FT : Fns) (O : Orc) {x0 x3 : PV} {l L : List (List UInt8)} {hp : Hp} (h0 : IsLs 9 1 hp x0 (tx l)) (h3 : AccS 9 1 hp x3 (tx L)) (hL : L.length ≤ 1000000000000) {idx : Nat} {t : List UInt8} (ht : l[idx]? = some t) : ∀ (m n k : Nat), L.length = k + m →
    ∃ k', k' ≤ L.length ∧ ∀ K : Ex → St → Option R, evC tys e35 l35_0 (callF tys FT O (run tys FT O (n + m))) (run tys FT O (n + m)) ⟨[(0, x0), (3, x3), (4, i idx), (5, i k)], hp⟩ K =
      K (.exit 2) ⟨[(0, x0), (3, x3), (4, i idx), (5, i k'), (27, .v (.bool false))], hp⟩ := by
  intro m
  induction m with
  | zero =>
    intro n k hm
    obtain rfl : k = L.length := by omega
    refine ⟨L.length, Nat.le_refl _, fun K => ?_⟩
    simp only [l35_0_eq, ev_loop, ev_seq, r35_6a, len32 (.inl h3), primBin_eq, bin_int, int_lss, ofNat_ble, Nat.ble_eq_true_of_le (Nat.le_refl _), Bool.not_true, ret1_some', bP_some, want_tf, bWD_false, ranL_false, bLg_some, pick_fu, seqK_normal, ev_cond, opd_tmp, alget, Nat.reduceEqDiff, reduceIte, bB_false, ev_exit, seqK_exit]
  | succ m ih =>
    intro n k hm
    have hlt : Nat.ble L.length k = false := by rw [Bool.eq_false_iff]; intro e; have := Nat.le_of_ble_eq_true e; omega
    obtain ⟨u, hu⟩ : ∃ u, L[k]? = some u := ⟨_, List.getElem?_eq_getElem (by omega)⟩
    obtain ⟨a, a1, a2, a3⟩ := at32' (.inl h3) hu
    obtain ⟨b, b1, b2, b3⟩ := at32' h0 ht
    obtain ⟨ld1, a3⟩ := a3 8 255 [] hp.next
    obtain ⟨ld2, b3⟩ := b3 12 3615 ld1 hp.next
    have hadd := int_add64 k 1 (by omega)
    cases hb : bytesLt u t with
    | false =>
      refine ⟨k, by omega, fun K => ?_⟩
      simp only [l35_0_eq, ev_loop, ev_seq, r35_6a, len32 (.inl h3), primBin_eq, bin_int, int_lss, ofNat_ble, hlt, Bool.not_false, ret1_some', bP_some, want_tt, bWD_true, ranL_true, bLg_some, a1, a2, a3, b1, b2, b3, bin_str, strBin, hb, pick_t, seqK_normal, ev_cond, opd_tmp, alget, Nat.reduceEqDiff, reduceIte, bB_false, ev_exit, seqK_exit]
    | true =>
      obtain ⟨k', hk', e⟩ := ih n (k + 1) (by omega)
      refine ⟨k', hk', fun K => ?_⟩
      simp only [l35_0_eq, ev_loop, ev_seq, r35_6a, len32 (.inl h3), primBin_eq, bin_int, int_lss, ofNat_ble, hlt, Bool.not_false, ret1_some', bP_some, want_tt, bWD_true, ranL_true, bLg_some, a1, a2, a3, b1, b2, b3, bin_str, strBin, hb, pick_t, seqK_normal, ev_cond, opd_tmp, alget, Nat.reduceEqDiff, reduceIte, bB_true, ev_skip, ev_block, r35_7a, hadd, blockK_normal]
      rw [show n + (m + 1) = n + m + 1 from rfl, run_succ]
      have := e K
      simp only [l35_0_eq] at this
      exact this
end
end Go.Ev

/- Sorted: the walk, all of it. -/
namespace Go.Ev
open Go.Proofs
open A (Str formed)
theorem Frz.is {x : PV} {l : List (List UInt8)} (h : Frz x l) (hp : Hp) : IsLs 9 1 hp x (tx l) := by
  rcases h with ⟨rfl, rfl⟩ | ⟨ex, rfl⟩
  · exact .inl (AccS.nil 9 1 hp)
  · exact .inr ⟨fun e he => by
      obtain ⟨t, _, rfl⟩ := List.mem_map.1 he
      rfl, ex, rfl⟩
theorem Frz.at {x : PV} {l : List (List UInt8)} (h : Frz x l) {j : Nat} {t : List UInt8} (hj : l[j]? = some t) (hp : Hp) : primIndexAddr tys hp 32 (some x) (some (i j)) = some (.ep [Str t] 0, hp) := by
  rcases h with ⟨rfl, rfl⟩ | ⟨ex, rfl⟩
  · cases hj
  · show ret1 hp (idxSl 1 (.sl (tx l) ex) j) = _
    unfold idxSl
    simp only [List.getElem?_map, hj, Option.map_some]
    rfl
theorem ld_ep (hp : Hp) (t : List UInt8) : primLoad tys hp 9 (some (.ep [Str t] 0)) = some (Str t, hp) := _root_.id rfl
theorem lgE' (q m : Nat) (ef : List (Nat × Hp)) (al : List Nat) {h h' : Hp} (h1 : effsIn m ef = true) (h2 : allocsIn m al = true) (h4 : h.next ≤ h'.next) : logEff tys q m ⟨[], ef, al⟩ h h' = some ⟨[], (q, h) :: ef, al⟩ := lgE q m [] ef al h1 h2 rfl h4
section
variable [E : Env] {R : Type}
theorem sort_out (FT : Fns) (O : Orc) {x0 : PV} {l : List (List UInt8)} (h0 : Frz x0 l) (hl : l.length ≤ 100000000000) : ∀ (m f idx : Nat) (x3 : PV) (L : List (List UInt8)) (hp : Hp), l.length = idx + m → l.length + m ≤ f → AccS 9 1 hp x3 (tx L) → L.length ≤ idx →
    ∃ x3' L' hp', (∀ K : Ex → St → Option R, evC tys e35 l35_1 (callF tys FT O (run tys FT O f)) (run tys FT O f) ⟨[(0, x0), (3, x3), (4, i idx)], hp⟩ K = K (.exit 0) ⟨[(0, x0), (3, x3'), (4, i l.length), (10, .v (.bool false))], hp'⟩) ∧
      AccS 9 1 hp' x3' (tx L') ∧ (∀ s ∈ L, s ∈ L') ∧ (∀ s ∈ l.drop idx, s ∈ L') ∧ L'.length ≤ l.length := by
  intro m
  induction m with
  | zero =>
    intro f idx x3 L hp hm hf ha hL
    obtain rfl : idx = l.length := by omega
    refine ⟨x3, L, hp, fun K => ?_, ha, (fun _ h => h), (fun s hs => by rw [List.drop_length] at hs; cases hs), hL⟩
    simp only [l35_1_eq, ev_loop, ev_seq, r35_3a, len32 (h0.is hp), primBin_eq, bin_int, int_lss, ofNat_ble, Nat.ble_eq_true_of_le (Nat.le_refl _), Bool.not_true, ret1_some', bP_some, seqK_normal, ev_cond, opd_tmp, alget, Nat.reduceEqDiff, reduceIte, bB_false, ev_exit, seqK_exit]
  | succ m ih =>
    intro f idx x3 L hp hm hf ha hL
    obtain ⟨f, rfl⟩ : ∃ g, f = g + 1 := ⟨f - 1, by omega⟩
    have hlt : Nat.ble l.length idx = false := by rw [Bool.eq_false_iff]; intro e; have := Nat.le_of_ble_eq_true e; omega
    obtain ⟨t, ht⟩ : ∃ u, l[idx]? = some u := ⟨_, List.getElem?_eq_getElem (by omega)⟩
    have hadd := int_add64 idx 1 (by omega)
    obtain ⟨k, hk, ein⟩ := sort_in (R := R) FT O (h0.is hp) ha (by omega) ht L.length (f + 1 - L.length) 0 (by omega)
    rw [show f + 1 - L.length + L.length = f + 1 by omega] at ein
    have drp : ∀ s, s ∈ l.drop idx → s = t ∨ s ∈ l.drop (idx + 1) := fun s hs => by
      obtain ⟨g1, g2⟩ := List.getElem?_eq_some_iff.1 ht
      rw [List.drop_eq_getElem_cons g1, g2] at hs
      exact List.mem_cons.1 hs
    -- is it there already?
    by_cases hin : k < L.length ∧ ∃ u, L[k]? = some u ∧ bytesEq u t = true
    · obtain ⟨hkl, u, hu, hb⟩ := hin
      have hlt2 : Nat.ble L.length k = false := by rw [Bool.eq_false_iff]; intro e; have := Nat.le_of_ble_eq_true e; omega
      obtain ⟨a, a1, a2, a3⟩ := at32' (.inl ha) hu
      obtain ⟨b, b1, b2, b3⟩ := at32' (h0.is hp) ht
      obtain ⟨ld1, a3⟩ := a3 8 255 [] hp.next
      obtain ⟨ld2, b3⟩ := b3 12 3615 ld1 hp.next
      obtain ⟨x3', L', hp', e, g1, g2, g3, g4⟩ := ih f (idx + 1) x3 L hp (by omega) (by omega) ha (by omega)
      refine ⟨x3', L', hp', fun K => ?_, g1, g2, fun s hs => ?_, g4⟩
      · simp only [l35_1_eq, ev_loop, ev_seq, r35_3a, len32 (h0.is hp), primBin_eq, bin_int, int_lss, ofNat_ble, hlt, Bool.not_false, ret1_some', bP_some, seqK_normal, ev_cond, opd_tmp, alget, Nat.reduceEqDiff, reduceIte, bB_true, ev_skip, ev_block, r35_5a]
        rw [ein]
        simp only [blockK_at, reduceIte, seqK_normal, ev_seq, r35_8a, len32 (.inl ha), primBin_eq, bin_int, int_lss, ofNat_ble, hlt2, Bool.not_false, ret1_some', bP_some, want_tt, bWD_true, ranL_true, bLg_some, a1, a2, a3, b1, b2, b3, bin_str, strBin, hb, pick_t, ev_cond, opd_tmp, alget, Nat.reduceEqDiff, bB_true, ev_exit, seqK_exit, r35_4b, hadd]
        rw [run_succ]
        have := e K
        simp only [l35_1_eq] at this
        exact this
      · rcases drp s hs with rfl | hs
        · refine g2 s ?_
          rw [← A.bytesEq_eq' hb]
          exact List.mem_of_getElem? hu
        · exact g3 s hs
    · -- it is put in its place
      obtain ⟨y, hy1, hy2⟩ := slice_lo ha hk
      obtain ⟨z, hz1, hz2⟩ := slice_hi ha hk
      obtain ⟨n1, hp1, p1, p2, p3, p4, p5, p6⟩ := (AccS.nil 9 1 hp).appsS sl32 (x := nl) (fs := tx (L.take k)) (fun e he => by
        obtain ⟨w, _, rfl⟩ := List.mem_map.1 he
        rfl) hy2 (by simp; omega)
      rw [List.nil_append] at p2
      have fr1 : ∀ j, j < hp.next → hp1.get j = hp.get j := fun j hj => p6 j hj (fun _ _ _ _ e => by cases e)
      have n1low : ∀ q o l c s, n1 = .row q o l c s → hp.next ≤ q := fun q o l c s e => by
        by_cases hq : tx (L.take k) = []
        · rw [(p4 hq).1] at e; cases e
        · obtain ⟨m, hm⟩ := p5 hq
          rw [hm] at e; cases e; exact Nat.le_refl _
      obtain ⟨n2, hp2, q1, q2, q3, _, ⟨m2, q5⟩, q6⟩ := p2.app (ty0 := 9) sl32 (e := [Str t]) rfl (by simp; omega)
      have q2' : AccS 9 1 hp2 n2 (tx (L.take k ++ [t])) := by rw [show tx (L.take k ++ [t]) = tx (L.take k) ++ [[Str t]] by simp]; exact q2
      have fr2 : ∀ j, j < hp.next → hp2.get j = hp.get j := fun j hj => by
        rw [q6 j (by omega) (fun o l c s e => by have := n1low j o l c s e; omega), fr1 j hj]
      have ha2 := ha.over (hp' := hp2) (by omega) fr2
      obtain ⟨n3, hp3, r1, r2, r3, r4, r5, r6⟩ := q2'.appsS sl32 (fs := tx (L.drop k)) (y := z) (fun e he => by
        obtain ⟨w, _, rfl⟩ := List.mem_map.1 he
        rfl) (hz2 hp2 ha2) (by simp; omega)
      have r2' : AccS 9 1 hp3 n3 (tx (L.take k ++ [t] ++ L.drop k)) := by rw [show tx (L.take k ++ [t] ++ L.drop k) = tx (L.take k ++ [t]) ++ tx (L.drop k) by simp]; exact r2
      obtain ⟨x3', L', hp', e, g1, g2, g3, g4⟩ := ih f (idx + 1) n3 (L.take k ++ [t] ++ L.drop k) hp3 (by omega) (by omega) r2' (by simp; omega)
      have eqn : ∀ K : Ex → St → Option R, evC tys e35 r35_8 (callF tys FT O (run tys FT O (f + 1))) (run tys FT O (f + 1)) ⟨[(0, x0), (3, x3), (4, i idx), (5, i k), (27, .v (.bool false))], hp⟩ K = K .normal ⟨[(0, x0), (3, x3), (4, i idx), (5, i k), (44, .v (.bool false))], hp⟩ := by
        intro K
        by_cases hkl : k < L.length
        · have hlt2 : Nat.ble L.length k = false := by rw [Bool.eq_false_iff]; intro e; have := Nat.le_of_ble_eq_true e; omega
          obtain ⟨u, hu⟩ : ∃ u, L[k]? = some u := ⟨_, List.getElem?_eq_getElem hkl⟩
          have hb : bytesEq u t = false := by
            cases hb : bytesEq u t with
            | false => rfl
            | true => exact absurd ⟨hkl, u, hu, hb⟩ hin
          obtain ⟨a, a1, a2, a3⟩ := at32' (.inl ha) hu
          obtain ⟨b, b1, b2, b3⟩ := at32' (h0.is hp) ht
          obtain ⟨ld1, a3⟩ := a3 8 255 [] hp.next
          obtain ⟨ld2, b3⟩ := b3 12 3615 ld1 hp.next
          simp only [r35_8a, len32 (.inl ha), primBin_eq, bin_int, int_lss, ofNat_ble, hlt2, Bool.not_false, ret1_some', bP_some, want_tt, bWD_true, ranL_true, bLg_some, a1, a2, a3, b1, b2, b3, bin_str, strBin, hb, pick_t]
        · have hle : Nat.ble L.length k = true := Nat.ble_eq_true_of_le (by omega)
          simp only [r35_8a, len32 (.inl ha), primBin_eq, bin_int, int_lss, ofNat_ble, hle, Bool.not_true, ret1_some', bP_some, want_tf, bWD_false, ranL_false, bLg_some, pick_fu]
      refine ⟨x3', L', hp', fun K => ?_, g1, fun s hs => g2 s ?_, fun s hs => ?_, g4⟩
      · have p1' : Ev.app tys 32 hp nl y = some (n1, hp1) := p1
        have r1' : Ev.app tys 32 hp2 n2 z = some (n3, hp3) := r1
        have L1 : ∀ n, logLoad tys 4 14 ⟨[], [], []⟩ n (Str t) (some (9, .ep [Str t] 0)) = some ⟨[], [], []⟩ := fun n => rfl
        have L2 := lgE' 6 63 [] [5] (h := hp1.new ⟨[Str t], 1, false, 0, 9⟩) (h' := hp2) rfl (by kernel_rfl) (by
          have := q2.low q5
          show hp1.next + 1 ≤ hp2.next
          omega)
        have L3 := lgE' 10 1023 [(6, hp1.new ⟨[Str t], 1, false, 0, 9⟩)] [5] (h := hp2) (h' := hp3) (by kernel_rfl) (by kernel_rfl) r3
        simp only [l35_1_eq, ev_loop, ev_seq, r35_3a, len32 (h0.is hp), primBin_eq, bin_int, int_lss, ofNat_ble, hlt, Bool.not_false, ret1_some', bP_some, seqK_normal, ev_cond, opd_tmp, alget, Nat.reduceEqDiff, reduceIte, bB_true, ev_skip, ev_block, r35_5a]
        rw [ein]
        simp only [blockK_at, reduceIte, seqK_normal, ev_seq, eqn, ev_cond, opd_tmp, alget, Nat.reduceEqDiff, bB_false, ev_skip, r35_9a, hy1, bP_some, prim2, p1', r35_10a, h0.at ht, ld_ep, L1, bLg_some, mk32, q1, lgAlloc, L2, hz1]
        simp only [r1', bP_some, L3, bLg_some, blockK_normal, seqK_normal, r35_4a, primBin_eq, bin_int, hadd, ret1_some']
        rw [run_succ]
        have := e K
        simp only [l35_1_eq] at this
        exact this
      · rw [← List.take_append_drop k L] at hs
        rcases List.mem_append.1 hs with hs | hs
        · exact List.mem_append_left _ (List.mem_append_left _ hs)
        · exact List.mem_append_right _ hs
      · rcases drp s hs with rfl | hs
        · exact g2 s (List.mem_append_left _ (List.mem_append_right _ (by simp)))
        · exact g3 s hs
end
end Go.Ev

/- Free, Set, Among: known. -/
namespace Go.Ev
open Go.Proofs
open A (Str formed)
theorem AccS.frzL {hp : Hp} {x : PV} {l : List (List UInt8)} (h : AccS 9 1 hp x (tx l)) {n : Nat} (hl : l.length ≤ n) : ∃ y hp', freeze (n + 2) hp x = some (y, hp') ∧ Frz y l := by
  by_cases he : l = []
  · subst he
    rcases h.2 with ⟨rfl, _⟩ | ⟨id, rfl, h2, h3⟩
    · exact ⟨nl, hp, rfl, .inl ⟨rfl, rfl⟩⟩
    · have e : freeze (n + 2) hp (.row id 0 (tx []).length (tx []).length 1) = some (.sl [] (Nat.beq 0 0 && (!true || Nat.blt (0 + 0 * 1) 0)), hp.put id ⟨[], 1, true, Nat.max 0 (0 + 0 * 1), 9⟩) := by
        show (match hp.get id with
          | none => none
          | some b => match cut b.cells 0 (0 * b.sz) with
            | none => none
            | some cs => match freezeL (n + 1) (hp.put id ⟨b.cells, b.sz, b.loose, Nat.max b.frz (0 + 0 * b.sz), b.ty⟩) cs with
              | none => none
              | some (l, h) => match group b.sz 0 l with
                | none => none
                | some es' => some (PV.sl es' (Nat.beq 0 0 && (!b.loose || Nat.blt (0 + 0 * b.sz) b.cells.length)), h)) = _
        rw [h3]
        rfl
      exact ⟨_, _, e, .inr ⟨_, rfl⟩⟩
  · obtain ⟨hp', h1⟩ := h.frz (fun e he c hc => by
      obtain ⟨t, _, rfl⟩ := List.mem_map.1 he
      rw [List.mem_singleton.1 hc]
      exact still_v _) n (by rw [flat_tx, List.length_map]; omega) (by simpa using he)
    exact ⟨_, hp', h1, .inr ⟨false, rfl⟩⟩
theorem Frz.still {x : PV} {l : List (List UInt8)} (h : Frz x l) : Still x := by
  rcases h with ⟨rfl, _⟩ | ⟨ex, rfl⟩
  · exact still_v _
  · exact still_sl _ _
theorem Frz.one {x : PV} {l m : List (List UInt8)} (h : Frz x l) (g : Frz x m) : l = m := by
  have inj : ∀ {a b : List (List UInt8)}, tx a = tx b → a = b := by
    intro a
    induction a with
    | nil => intro b h; cases b with | nil => rfl | cons _ _ => cases h
    | cons t a ih =>
      intro b h
      cases b with
      | nil => cases h
      | cons u b =>
        simp only [List.map_cons, List.cons.injEq, PV.v.injEq, Value.string.injEq, ByteArray.mk.injEq, Array.mk.injEq, and_true] at h
        rw [h.1, ih h.2]
  rcases h with ⟨rfl, rfl⟩ | ⟨ex, rfl⟩ <;> rcases g with ⟨g1, rfl⟩ | ⟨ex', g1⟩
  · rfl
  · cases g1
  · cases g1
  · simp only [PV.sl.injEq] at g1
    exact inj g1.1
section
variable [E : Env]
theorem among_known {x : PV} {l : List (List UInt8)} (h : Frz x l) (hl : l.length ≤ 100000000000) (t : List UInt8) : Known Tryz.prog 5 [x, Str t] (.v (.bool (amB l t))) := by
  refine known_runD (n := 0 + l.length + 1) (FT := .lf) (O := fun _ _ => none) tOk mixed A.lf0 A.orc0 e5sok (h := ⟨[], 0, []⟩) (h2 := ⟨[], 0, []⟩) (fun k => among_own .lf _ (h.is _) (by omega) t 0 k) ?_
  rfl
theorem sorted_known {x : PV} {l : List (List UInt8)} (h : Frz x l) (hl : l.length ≤ 100000000000) : ∃ y L, Frz y L ∧ (∀ s ∈ l, s ∈ L) ∧ L.length ≤ l.length ∧ Known Tryz.prog 35 [x] y := by
  obtain ⟨x3, L, hp', e, g1, g2, g3, g4⟩ := sort_out (R := PV) .lf (fun _ _ => none) h (by omega) l.length (l.length + l.length) 0 nl [] ⟨[], 0, []⟩ (by omega) (by omega) (AccS.nil 9 1 _) (by simp)
  obtain ⟨y, hp2, f1, f2⟩ := g1.frzL (n := 999999999998) (by omega)
  refine ⟨y, L, f2, by rw [List.drop_zero] at g3; exact g3, g4, ?_⟩
  refine known_runD (n := l.length + l.length + 1) (FT := .lf) (O := fun _ _ => none) tOk mixed A.lf0 A.orc0 e35ok (p := x3) (h := hp') (fun k => ?_) f1
  · rw [b35, run_succ, c35_eq]
    simp only [ev_seq, r35_0a, seqK_normal, r35_1a, r35_2a, ev_block]
    rw [e]
    simp only [blockK_at, reduceIte, seqK_normal, ev_seq, r35_11a, ev_ret, seqK_ret, endK_ret, z35a, consO_some, oneR_one, bQ_some]
theorem set_known {x : PV} {l : List (List UInt8)} (h : Frz x l) (hl : l.length ≤ 100000000000) : ∃ y L, Frz y L ∧ (∀ s ∈ l, s ∈ L) ∧ L.length ≤ l.length ∧ Known Tryz.prog 16 [x] y := by
  obtain ⟨y, L, f2, g2, g3, hk⟩ := sorted_known h hl
  refine ⟨y, L, f2, g2, g3, ?_⟩
  have hO : OrcOk Tryz.prog (fun f ds => if f = 35 then iff (ds = [x]) (some y) none else none) := by
    intro f ds q hq
    have hq : (if f = 35 then iff (ds = [x]) (some y) none else none) = some q := hq
    split at hq
    · rename_i hf
      subst hf
      obtain ⟨h1, h2⟩ := A.iff_some hq
      subst h1
      cases h2
      rcases h with ⟨rfl, _⟩ | ⟨ex, rfl⟩ <;> exact hk
    · cases hq
  refine known_runD (n := 2) (FT := .lf) tOk mixed A.lf0 hO e16ok (p := y) (h := ⟨[], 0, []⟩) (fun k => ?_) (f2.still 999999999999 _)
  rw [b16, run_succ, c16_eq]
  simp only [ev_seq, r16_0a, seqK_normal, r16_1a]
  rw [call_asked (FT := .lf) rfl (show freezeL deepN ⟨[], 0, []⟩ [x] = some ([x], ⟨[], 0, []⟩) from by
    show (match freeze 999999999999 _ x with | none => none | some (y, h) => match freezeL 999999999999 h [] with | none => none | some (ys, h') => some (y :: ys, h')) = _
    rw [h.still 999999999998]
    rfl) (show (if 35 = 35 then iff ([x] = [x]) (some y) none else none) = some y by rw [if_pos rfl, iff_t rfl])]
  simp only [seqK_normal, ev_ret, seqK_ret, endK_ret, z16a, consO_some, oneR_one, bQ_some]
/-- an argument that is made a value of its own first -/
theorem call_frozen {T : Types} {FT : Fns} {O : Orc} {rc : RC PV} {f : Nat} (hf : FT.get f = none) {x y : PV} {hp hp' : Hp} {k : PV → Hp → Option PV} (hx : ∀ j o, x ≠ .ptr j o) (hl : freeze 999999999999 hp x = some (y, hp')) {q : PV} (hq : O f [y] = some q) :
    callF T FT O rc f [x] hp k = k q hp' := by
  have hl' : freezeL deepN hp [x] = some ([y], hp') := by
    show (match freeze 999999999999 hp x with | none => none | some (y, h) => match freezeL 999999999999 h [] with | none => none | some (ys, h') => some (y :: ys, h')) = _
    rw [hl]
    rfl
  unfold callF
  rw [hf]
  simp only [callA]
  split
  · rename_i h
    simp only [List.cons.injEq] at h
    exact absurd h.1 (hx _ _)
  · simp only [hl', callO, hq]
theorem free_known {n : Nat} {X : List PV} (h : Et n X) (hn : n ≤ 16) : ∃ y L, Frz y L ∧ (∀ s, Fv X s → s ∈ L) ∧ L.length ≤ 100000000000 ∧ Known Tryz.prog 6 [.agg X] y := by
  have hX := h.facts
  have hold : ∀ j, j < 0 → True := fun _ _ => trivial
  let hp0 : Hp := (⟨[], 0, []⟩ : Hp).new ⟨X, 10, false, 0, 30⟩
  have hV := VV_le hn
  obtain ⟨out, O, hp1, e17, P⟩ := free_ok h hn (10 * n + 10) nl nl [] [] hp0 (by simp) (AccS.nil 9 1 _) (AccS.nil 9 1 _) (fun _ _ _ _ _ _ _ _ _ e => by cases e) (by simp; omega) (by simp; omega)
  have hOl : O.length ≤ 10000000000 := by have := P.len; simp at this; omega
  obtain ⟨y, hp2, f1, f2⟩ := P.acc.frzL (n := 999999999997) (by omega)
  obtain ⟨z, L, g1, g2, g3, g4⟩ := set_known f2 (by omega)
  have hS : ∃ q, SetOk [y] q := ⟨z, y, O, L, rfl, f2, g1, g2, g3, g4⟩
  obtain ⟨x', l', L', e1, e2, e3, e4, e5, e6⟩ := Classical.choose_spec hS
  simp only [List.cons.injEq, and_true] at e1
  subst e1
  obtain rfl := f2.one e2
  refine ⟨Classical.choose hS, L', e3, fun s hs => e4 s (P.fv s hs (by simp)), by omega, ?_⟩
  have h16 : orcF 16 [y] = some (Classical.choose hS) := by
    show @dite _ (∃ q, SetOk [y] q) (Classical.propDecidable _) (fun h => some (Classical.choose h)) (fun _ => none) = _
    rw [dif_pos hS]
  have nop : ∀ j o, out ≠ .ptr j o := fun j o e => by
    rcases P.acc.2 with ⟨h, _⟩ | ⟨id, h, _⟩
    · rw [h] at e; cases e
    · rw [h] at e; cases e
  refine known_runD (n := 10 * n + 10 + 1) (FT := fnsV) (O := orcF) tOk mixed fnsVOk orcF_ok e6ok (p := Classical.choose hS) (h := hp2) (fun k => ?_) (e3.still 999999999999 _)
  have c17 : ∀ K : PV → Hp → Option PV, callF tys fnsV orcF (run tys fnsV orcF (10 * n + 10)) 17 [.agg X, nl, nl] hp0 K = K out hp1 := fun K => by
    rw [call_own fnsV17 rfl rfl rfl rfl]; exact e17 K
  have l30 : primLoad tys hp0 30 (some (.ptr 0 0)) = some (.agg X, hp0) := load30 hX.1 rfl
  have b30 := box30 (⟨[], 0, []⟩ : Hp) hX.1
  have b30' : primBox tys ⟨[], 0, []⟩ 30 (some (.agg X)) = some (.ptr 0 0, hp0) := b30
  rw [b6, run_succ, c6_eq]
  simp only [ev_seq, r6_0a, b30', bP_some, seqK_normal, r6_1a, l30, c17]
  rw [call_frozen rfl nop f1 h16]
  simp only [seqK_normal, ev_ret, seqK_ret, endK_ret, z6a, consO_some, oneR_one, bQ_some]
end
end Go.Ev
