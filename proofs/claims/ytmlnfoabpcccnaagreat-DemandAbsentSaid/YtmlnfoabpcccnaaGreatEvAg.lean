/- Operations: maps that are made and changed. -/
import Derived.Test.YtmlnfoabpcccnaaGreatEvAf
import Derived.Lib.UnsafeStr
set_option linter.all false
/- Operations: maps that are made and changed. -/
namespace Go.Ev
variable [Env]
section
variable {P : Program} {T : Types} {w : World} {F : Fz} {M : Mp} {hp : Hp}

theorem Hp.mget_mput (h : Hp) (i j : Nat) (m : MO) : (h.mput i m).mget j = if j = i then (h.mget i).map fun _ => m else h.mget j := by
  unfold Hp.mput Hp.mget; exact Al.get_set _ _ _ _
theorem Hp.mget_mnew (h : Hp) (m : MO) (i : Nat) : (h.mnew m).mget i = if h.next = i then some m else h.mget i := by
  unfold Hp.mnew Hp.mget; exact Al.get_cons _ _ _ _

/-- a map takes other entries -/
theorem HS.mput (hs : HS hp w F M) {id : Nat} {es es' : List (PV × PV)} {p : Pl} (hg : hp.mget id = some (.map es)) (hm : M id = some p) {ms ms' : Array MapEntry} {c c' : Nat} (hb : w.heap[p.b]? = some (.map ms c))
    (hsz : ms'.size = es'.length) (hr : ∀ (j : Nat) k v, es'[j]? = some (k, v) → ∃ e, ms'[j]? = some e ∧ VR w F M k e.key ∧ VR w F M v e.val) :
    HS (hp.mput id (.map es')) { w with heap := w.heap.setIfInBounds p.b (.map ms' c') } F M ∧ Ext w { w with heap := w.heap.setIfInBounds p.b (.map ms' c') } F F M M := by
  have hlt : p.b < w.heap.size := (Array.getElem?_eq_some_iff.1 hb).1
  have hoth : ∀ b, b ≠ p.b → (w.heap.setIfInBounds p.b (.map ms' c'))[b]? = w.heap[b]? := fun b hne => by
    rw [Array.getElem?_setIfInBounds_ne (Ne.symm hne)]
  have hself : (w.heap.setIfInBounds p.b (.map ms' c'))[p.b]? = some (.map ms' c') := by
    rw [Array.getElem?_setIfInBounds_self, if_pos hlt]
  have hcell : ∀ b o, F b o → ({ w with heap := w.heap.setIfInBounds p.b (.map ms' c') } : World).cell? ⟨b, o, none⟩ = w.cell? ⟨b, o, none⟩ := by
    intro b o _
    by_cases hne : b = p.b
    · subst hne
      simp [World.cell?, hself, hb]
    · exact World.cell?_of_block (a := ⟨b, o, none⟩) (hoth b hne)
  have hx : Ext w { w with heap := w.heap.setIfInBounds p.b (.map ms' c') } F F M M :=
    ⟨rfl, rfl, rfl, by simp, fun k _ hn => hoth k (fun e' => hn id p hm e'.symm), hcell, fun _ _ h => h, fun _ _ h => h, fun _ _ h => .inl h, fun _ _ h => .inl h⟩
  refine ⟨⟨?_, hs.inj, ?_, hs.fresh, ?_, ?_, ?_, ?_⟩, hx⟩
  · intro i b q hgi hmi
    have br := hs.br i b q hgi hmi
    have hne : q.b ≠ p.b := by
      intro e
      obtain ⟨cc, e1, h1, _⟩ := br.blk
      rw [e, hb] at h1; cases h1
    exact br.mono (hoth _ hne) hx.mF hx.cell hx.mM fun _ h => h
  · intro i q hq
    have := hs.lt i q hq
    exact ⟨this.1, by simpa using this.2⟩
  · intro b o hF
    simpa using hs.fw b o hF
  · intro i x q hgi hmi
    have hgi' : (hp.mput id (.map es')).mget i = some x := hgi
    rw [Hp.mget_mput] at hgi'
    by_cases hi : i = id
    · subst hi
      rw [if_pos rfl, hg] at hgi'; cases hgi'
      rw [hm] at hmi; cases hmi
      refine .map hself hsz fun j k v hj => ?_
      obtain ⟨e, g1, g2, g3⟩ := hr j k v hj
      exact ⟨e, g1, g2.ext hx, g3.ext hx⟩
    · rw [if_neg hi] at hgi'
      have hne : q.b ≠ p.b := fun e => hi (hs.ms.inj i id x _ q p hgi' hg hmi hm e)
      exact (hs.ms.mp i x q hgi' hmi).mono (fun _ => hoth _ hne) hx.mF hx.cell hx.mM
  · intro i j x y q q' hi hj hq hq' e
    have hi' : (hp.mput id (.map es')).mget i = some x := hi
    have hj' : (hp.mput id (.map es')).mget j = some y := hj
    have alive : ∀ k z, (hp.mput id (.map es')).mget k = some z → ∃ z', hp.mget k = some z' := by
      intro k z hk
      rw [Hp.mget_mput] at hk
      by_cases e2 : k = id
      · subst e2; exact ⟨_, hg⟩
      · rw [if_neg e2] at hk; exact ⟨_, hk⟩
    obtain ⟨x', hx'⟩ := alive i x hi'
    obtain ⟨y', hy'⟩ := alive j y hj'
    exact hs.ms.inj i j x' y' q q' hx' hy' hq hq' e
  · intro i x hi
    have hi' : (hp.mput id (.map es')).mget i = some x := hi
    rw [Hp.mget_mput] at hi'
    by_cases e2 : i = id
    · subst e2; exact hs.ms.fresh _ _ hg
    · rw [if_neg e2] at hi'; exact hs.ms.fresh _ _ hi'

/-- a map that is made -/
theorem HS.mnew (hs : HS hp w F M) :
    HS (hp.mnew (.map [])) (w.alloc (.map #[] 0)) F (M.up hp.next ⟨w.heap.size, 0, 0, 0, 0, false⟩) ∧ Ext w (w.alloc (.map #[] 0)) F F M (M.up hp.next ⟨w.heap.size, 0, 0, 0, 0, false⟩) := by
  have hx := Ext.alloc w F M (.map #[] 0) hp.next ⟨w.heap.size, 0, 0, 0, 0, false⟩ hs.next_free rfl hs.fw
  have hne : ∀ {id}, id < hp.next → id ≠ hp.next := fun h e => by omega
  refine ⟨⟨?_, ?_, ?_, ?_, ?_, ?_, ?_, ?_⟩, hx⟩
  · intro id b p hg hm
    have hl := hs.fresh id b hg
    rw [Mp.up_ne _ _ (hne hl)] at hm
    exact (hs.br id b p hg hm).mono (RowKit.Below.heap_alloc w _ p.b (hs.lt _ _ hm).2) hx.mF hx.cell hx.mM fun _ h => h
  · intro i j bi bj p q hi hj hp' hq e
    rw [Mp.up_ne _ _ (hne (hs.fresh i bi hi))] at hp'
    rw [Mp.up_ne _ _ (hne (hs.fresh j bj hj))] at hq
    exact hs.inj i j bi bj p q hi hj hp' hq e
  · intro id p hm
    show id < hp.next + 1 ∧ _
    by_cases e' : id = hp.next
    · subst e'; rw [Mp.up_self] at hm; cases hm
      exact ⟨by omega, by rw [alloc_size]; show w.heap.size < _; omega⟩
    · rw [Mp.up_ne _ _ e'] at hm
      have := hs.lt _ _ hm
      exact ⟨by omega, by rw [alloc_size]; omega⟩
  · intro id b hg
    exact Nat.lt_succ_of_lt (hs.fresh id b hg)
  · intro b o hF
    have := hs.fw _ _ hF
    rw [alloc_size]; omega
  · intro i x q hgi hmi
    have hgi' : (hp.mnew (.map [])).mget i = some x := hgi
    rw [Hp.mget_mnew] at hgi'
    by_cases hi : hp.next = i
    · subst hi
      rw [if_pos rfl] at hgi'; cases hgi'
      rw [Mp.up_self] at hmi; cases hmi
      refine .map (ms := #[]) (clock := 0) ?_ rfl fun j k v hj => by simp at hj
      show (w.heap.push _)[w.heap.size]? = _
      simp
    · rw [if_neg hi] at hgi'
      rw [Mp.up_ne _ _ (Ne.symm hi)] at hmi
      exact (hs.ms.mp i x q hgi' hmi).mono (fun h => RowKit.Below.heap_alloc w _ q.b h.lt) hx.mF hx.cell hx.mM
  · intro i j x y q q' hi hj hq hq' e
    have hi' : (hp.mnew (.map [])).mget i = some x := hi
    have hj' : (hp.mnew (.map [])).mget j = some y := hj
    rw [Hp.mget_mnew] at hi' hj'
    by_cases h1 : hp.next = i
    · by_cases h2 : hp.next = j
      · exact h1.symm.trans h2
      · subst h1; rw [Mp.up_self] at hq; cases hq
        rw [Mp.up_ne _ _ (Ne.symm h2)] at hq'
        have := (hs.lt _ _ hq').2
        simp at e; omega
    · rw [Mp.up_ne _ _ (Ne.symm h1)] at hq
      by_cases h2 : hp.next = j
      · subst h2; rw [Mp.up_self] at hq'; cases hq'
        have := (hs.lt _ _ hq).2
        simp at e; omega
      · rw [Mp.up_ne _ _ (Ne.symm h2)] at hq'
        rw [if_neg h1] at hi'; rw [if_neg h2] at hj'
        exact hs.ms.inj i j x y q q' hi' hj' hq hq' e
  · intro i x hi
    have hi' : (hp.mnew (.map [])).mget i = some x := hi
    show i < hp.next + 1
    rw [Hp.mget_mnew] at hi'
    by_cases h1 : hp.next = i
    · omega
    · rw [if_neg h1] at hi'; have := hs.ms.fresh i x hi'; omega

theorem mapSet_length (y : PV × PV) : ∀ (es : List (PV × PV)) (i : Nat), (mapSet es i y).length = es.length
  | [], _ => rfl
  | _ :: _, 0 => rfl
  | _ :: r, i + 1 => by simp [mapSet, mapSet_length y r i]
theorem mapSet_get (y : PV × PV) : ∀ (es : List (PV × PV)) (i j : Nat), (mapSet es i y)[j]? = if j = i then (es[i]?).map fun _ => y else es[j]?
  | [], i, j => by by_cases h : j = i <;> simp [mapSet, h]
  | x :: r, 0, j => by
    cases j with
    | zero => simp [mapSet]
    | succ j => simp [mapSet]
  | x :: r, i + 1, j => by
    cases j with
    | zero => simp [mapSet]
    | succ j => simp [mapSet, mapSet_get y r i j]

theorem upd_sound (hT : TOk P T) (hs : HS hp w F M) {t : TypeId} {x k y : Option PV} {vx vk vy : Value} (hx : ∀ q, x = some q → VR w F M q vx) (hk : ∀ q, k = some q → VR w F M q vk) (hy : ∀ q, y = some q → VR w F M q vy) {p : PV} {h : Hp}
    (e : primUpd T hp t x k y = some (p, h)) : ∃ w', p = .un ∧ (Instr.mapUpdate t vx vk vy).run P w = .ok () w' ∧ HS h w' F M ∧ Ext w w' F F M M := by
  unfold primUpd at e
  cases hi : T.get t with
  | none => simp [hi] at e
  | some i =>
    simp only [hi] at e
    obtain ⟨info, ud, z, hz, _⟩ := hT.get hi
    cases hk9 : Nat.beq i.kind 9 with
    | false => simp [hk9] at e
    | true =>
      simp only [hk9] at e
      obtain ⟨rfl, hzf⟩ := hz.k9 (Nat.eq_of_beq_eq_true hk9)
      split at e
      · rename_i id
        cases k with
        | none => simp at e
        | some pk =>
          cases y with
          | none => simp at e
          | some py =>
            simp only [] at e
            obtain ⟨pl, hm, rfl⟩ := mp_inv (hx _ rfl)
            have hk := hk pk rfl
            have hy := hy py rfl
            unfold updIn keyKind at e
            cases hj : T.get i.alen with
            | none => simp [hj] at e
            | some ki =>
              simp only [hj] at e
              cases hkk : (Nat.beq ki.kind 6 || Nat.beq ki.kind 7 || Nat.beq ki.kind 4) with
              | false => simp [hkk] at e
              | true =>
                simp only [hkk] at e
                obtain ⟨kinfo, kud, kz, hkz, _⟩ := hT.get hj
                split at e
                · rename_i hself
                  obtain ⟨_, hck, _⟩ := keyEq_sound hT hj hkz.und hk hk hself
                  have hck' := hck 9999 false
                  split at e
                  · rename_i es hg
                    cases hs.ms.mp id _ pl hg hm with
                    | map g1 g2 g3 =>
                      rename_i ms clock
                      have hgo := MapKept.run_getObj_map (P := P) g1
                      cases hmf : mapFind ki.kind pk es 0 with
                      | none => simp [hmf] at e
                      | some r =>
                        simp only [hmf] at e
                        rcases mapFind_sound hT hj hkz.und hk es ms.toList 0 r (by simpa using g2) (fun j k v hjk => by simpa using g3 j k v hjk) hmf with ⟨rfl, k2⟩ | ⟨m, me, mp, rfl, k2, k3, k4, k5⟩
                        · cases e
                          have hf := MapKept.run_findKey (P := P) (w := w) hkz.und k2
                          obtain ⟨r1, r2⟩ := hs.mput (es' := es ++ [(pk, py)]) (ms' := ms.push { key := vk, val := vy, born := clock }) (c' := clock + 1) hg hm g1 (by simp [g2]) (by
                            intro j k v hj
                            rw [List.getElem?_append] at hj
                            by_cases hlt : j < es.length
                            · rw [if_pos hlt] at hj
                              obtain ⟨e, q1, q2, q3⟩ := g3 j k v hj
                              exact ⟨e, by rw [Array.getElem?_push_lt (by omega)]; rw [← q1]; simp [g2, hlt], q2, q3⟩
                            · rw [if_neg hlt] at hj
                              have hje : j = es.length := by
                                have := (List.getElem?_eq_some_iff.1 hj).1
                                simp at this; omega
                              subst hje
                              simp at hj
                              obtain ⟨rfl, rfl⟩ := hj
                              exact ⟨{ key := vk, val := vy, born := clock }, by rw [← g2]; simp, hk, hy⟩)
                          exact ⟨_, rfl, by simp [Instr.mapUpdate, run_underlying hz.und, hgo, hck', hf, MapKept.run_setObj_map _ g1], r1, r2⟩
                        · simp only [Nat.zero_add] at e k4
                          cases e
                          have hf := MapKept.run_findKey (P := P) (w := w) hkz.und k4
                          have hks : (Instr.keyThatStays me.key vk).run P w = .ok vk w := by
                            unfold Instr.keyThatStays
                            rw [if_pos (k5 9999)]
                            simp
                          have hml : m < ms.size := by
                            have := (List.getElem?_eq_some_iff.1 k2).1
                            simpa using this
                          have hme : ms[m]? = some me := by simpa using k2
                          obtain ⟨r1, r2⟩ := hs.mput (es' := mapSet es m (pk, py)) (ms' := ms.modify m fun e => { e with key := vk, val := vy }) (c' := clock) hg hm g1 (by simp [mapSet_length, g2]) (by
                            intro j k v hj
                            rw [mapSet_get] at hj
                            by_cases hjm : j = m
                            · subst hjm
                              rw [if_pos rfl] at hj
                              have : (pk, py) = (k, v) := by
                                cases hes : es[j]? with
                                | none => simp [hes] at hj
                                | some q => simpa [hes] using hj
                              cases this
                              exact ⟨{ me with key := vk, val := vy }, by simp [Array.getElem?_modify, hme], hk, hy⟩
                            · rw [if_neg hjm] at hj
                              obtain ⟨e, q1, q2, q3⟩ := g3 j k v hj
                              exact ⟨e, by rw [Array.getElem?_modify, if_neg (Ne.symm hjm)]; exact q1, q2, q3⟩)
                          exact ⟨_, rfl, by simp [Instr.mapUpdate, run_underlying hz.und, hgo, hck', hf, hme, hks, MapKept.run_setObj_map _ g1], r1, r2⟩
                  · cases e
                · cases e
      · cases e

theorem newMap_sound (hT : TOk P T) (hs : HS hp w F M) {t : TypeId} {x : Option Operand} {ρ : Operand → Value} {tm : Tm} (hx : ∀ o q, x = some o → opd o tm = some q → VR w F M q (ρ o)) {p : PV} {h : Hp}
    (e : primMap T hp t (opdO x tm) = some (p, h)) : GoodV w F M ((Instr.makeMap t (x.map ρ)).run P w) p h := by
  have key : ∀ {res : Result Value}, res = .ok (.map (some w.heap.size)) (w.alloc (.map #[] 0)) → newMap hp = some (p, h) → GoodV w F M res p h := by
    intro res hr he
    unfold newMap at he; cases he
    obtain ⟨h1, h2⟩ := hs.mnew
    exact ⟨_, _, _, hr, VR.mp (p := ⟨w.heap.size, 0, 0, 0, 0, false⟩) (Mp.up_self _ _ _), h1, h2⟩
  unfold primMap at e
  split at e
  · cases e
  · rename_i ho
    cases x with
    | none => exact key rfl e
    | some o =>
      simp only [opdO] at ho
      cases hq : opd o tm with
      | none => simp [hq, someO] at ho
      | some q => simp [hq, someO] at ho
  · rename_i k n ho
    cases x with
    | none => simp [opdO] at ho
    | some o =>
      simp only [opdO] at ho
      cases hq : opd o tm with
      | none => simp [hq, someO] at ho
      | some q =>
        simp [hq, someO] at ho
        subst ho
        have hv := hx o _ rfl hq
        cases hi : T.get t with
        | none => simp [hi] at e
        | some i =>
          simp only [hi] at e
          obtain ⟨info, ud, z, hz, _⟩ := hT.get hi
          cases hk9 : Nat.beq i.kind 9 with
          | false => simp [hk9] at e
          | true =>
            simp only [hk9] at e
            obtain ⟨rfl, hzf⟩ := hz.k9 (Nat.eq_of_beq_eq_true hk9)
            refine key ?_ e
            generalize hov : ρ o = v at hv
            cases hv
            simp [Instr.makeMap, hov, run_underlying hz.und, asInt, asIntOf]
  · cases e
end
end Go.Ev

/- Operations: package unsafe's SliceData and String over rows of bytes. -/
namespace Go.Ev
variable [Env]
section
variable {P : Program} {T : Types} {w : World} {F : Fz} {M : Mp} {hp : Hp}

/-- a block is given up; in the world it changes nothing that is looked at -/
theorem HS.lose (hs : HS hp w F M) {id : Nat} {b : Blk} {pl : Pl} (hg : hp.get id = some b) (hm : M id = some pl) {w' : World} (h1 : w'.os = w.os) (h2 : w'.tape = w.tape) (h3 : w'.output = w.output) (h4 : w'.heap.size = w.heap.size)
    (h5 : ∀ k, k ≠ pl.b → w'.heap[k]? = w.heap[k]?) (h6 : ∀ o, w'.cell? ⟨pl.b, o, none⟩ = w.cell? ⟨pl.b, o, none⟩) : HS (hp.kill id) w' F M ∧ Ext w w' F F M M := by
  have hcell : ∀ k o, F k o → w'.cell? ⟨k, o, none⟩ = w.cell? ⟨k, o, none⟩ := by
    intro k o _
    by_cases hk : k = pl.b
    · subst hk; exact h6 o
    · exact World.cell?_of_block (a := ⟨k, o, none⟩) (h5 k hk)
  have hx : Ext w w' F F M M := ⟨h1, h2, h3, by omega, fun k _ hn => h5 k fun e => hn id pl hm e.symm, hcell, fun _ _ h => h, fun _ _ h => h, fun _ _ h => .inl h, fun _ _ h => .inl h⟩
  obtain ⟨c, e, k1, _⟩ := (hs.br id b pl hg hm).blk
  have hk := hs.kill id
  refine ⟨⟨?_, hk.inj, fun i p h => ⟨(hk.lt i p h).1, by rw [h4]; exact (hk.lt i p h).2⟩, hk.fresh, fun k o h => by rw [h4]; exact hk.fw k o h, ?_⟩, hx⟩
  · intro i bi p hgi hmi
    have hgi' := hgi
    rw [Hp.get_kill] at hgi'
    split at hgi'
    · cases hgi'
    · rename_i hne
      have hpb : p.b ≠ pl.b := fun e => hne (hs.inj i id bi b p pl hgi' hg hmi hm e)
      exact (hs.br i bi p hgi' hmi).mono (h5 p.b hpb) (fun _ _ h => h) hcell (fun _ _ h => h) fun _ h => h
  · exact hs.ms.mono (Nat.le_refl _) (fun b' hb => h5 b' fun e' => notMap k1 (e' ▸ hb)) (fun _ _ h => h) hcell (fun _ _ h => h) fun _ _ _ h => h

theorem freeze_other (a : Addr) (n k : Nat) (h : k ≠ a.block) : (w.freeze a n).heap[k]? = w.heap[k]? := by
  unfold World.freeze
  split
  · rfl
  · simp only [Array.getElem?_modify]
    rw [if_neg (fun e => h e.symm)]

theorem freeze_cell {b o n : Nat} {c : Array Value} {e : TypeId} {r : Nat × Nat} (h : w.heap[b]? = some (.cells c e r)) (j : Nat) : (w.freeze ⟨b, o, none⟩ n).cell? ⟨b, j, none⟩ = w.cell? ⟨b, j, none⟩ := by
  unfold World.freeze
  split
  · rfl
  · obtain ⟨lo, hi⟩ := r
    simp [World.cell?, Array.getElem?_modify, h]

/-- n bytes lie side by side anywhere in a row of bytes -/
theorem liesAt_bytesAt {e : TypeId} (hc : P.cellsOf e = 1) (count off n : Nat) (hn : off + n ≤ count) : liesAt P P.depth e count off e n = true := by
  have hd : P.depth = (2 * (P.types.size + Made.depth) + 1) + 1 := rfl
  rw [hd]
  simp only [liesAt, Bool.or_eq_true]
  left
  rw [hd]
  have h1 : off % 1 = 0 := Nat.mod_one off
  simp [rowAt, hc, hn, sameLayout, h1]

theorem run_unsafeString_at (pt it ty e : TypeId) (hp : P.underlying pt = some (.pointer e)) (hc : P.cellsOf e = 1) (g o cells : Nat) (hsh : w.shape? g = some (e, cells)) (l : List UInt8) (h0 : l ≠ []) (hn : o + l.length ≤ cells) (h63 : l.length ≤ 9223372036854775807)
    (hcell : ∀ j x, l[j]? = some x → w.cell? ((⟨g, o, none⟩ : Addr).add j) = some (.int .u8 x.toNat)) :
    (Builtin.unsafeString_ #[pt, it] ty #[.pointer (some ⟨g, o, none⟩), .int .i64 l.length]).run P w = .ok (.string ⟨l.toArray⟩) (w.freeze ⟨g, o, none⟩ l.length) := by
  have hl : l.length ≠ 0 := by simpa using h0
  have hlb := Lib.run_loadBytes (P := P) w l ⟨g, o, none⟩ .empty hcell
  have hlies := liesAt_bytesAt (P := P) hc (cells / P.cellsOf e) o l.length (by rw [hc]; simpa using hn)
  have h63' : ¬ (9223372036854775807 : Int) < (l.length : Int) := by omega
  have hmax : IntKind.i64.max = 9223372036854775807 := rfl
  have hneg : ¬ (l.length : Int) < 0 := by omega
  show (asInt (.int .i64 l.length) >>= _).run P w = _
  simp [asInt, asIntOf, hmax, h63', hneg, hl, variablesAt, hsh, elemOf, run_underlying hp, hlies, hlb]

theorem bytesOf8_length : ∀ {cs : List PV} {l : List UInt8}, bytesOf8 cs = some l → l.length = cs.length
  | [], l, h => by cases h; rfl
  | c :: cs, l, h => by
    unfold bytesOf8 at h
    split at h
    · rename_i heq; cases heq
    · rename_i n r heq
      cases heq
      split at h
      · cases h
      · cases hb : bytesOf8 cs with
        | none => simp [hb] at h
        | some l' =>
          simp only [hb] at h; cases h
          simp [bytesOf8_length hb]
    · cases h
theorem bytesOf8_get : ∀ {cs : List PV} {l : List UInt8}, bytesOf8 cs = some l → ∀ (j : Nat) x, l[j]? = some x → cs[j]? = some (.v (.int .u8 (x.toNat : Int)))
  | [], l, h, j, x, hj => by cases h; simp at hj
  | c :: cs, l, h, j, x, hj => by
    unfold bytesOf8 at h
    split at h
    · rename_i heq; cases heq
    · rename_i n r heq
      cases heq
      split at h
      · cases h
      · rename_i hn
        cases hb : bytesOf8 cs with
        | none => simp [hb] at h
        | some l' =>
          simp only [hb] at h; cases h
          cases j with
          | zero =>
            simp only [List.getElem?_cons_zero, Option.some.injEq] at hj ⊢
            subst hj
            have hn : n + 1 ≤ 256 := Nat.le_of_ble_eq_true hn
            have : (UInt8.ofNat n).toNat = n := by
              rw [UInt8.toNat_ofNat']
              omega
            rw [this]
            rfl
          | succ j =>
            simp only [List.getElem?_cons_succ] at hj ⊢
            exact bytesOf8_get hb j x hj
    · cases h

theorem sliceData_sound {x : Option PV} {v : Value} (hx : ∀ q, x = some q → VR w F M q v) {ts : Array TypeId} {ty : TypeId} {p : PV} {h : Hp} (e : sliceData hp x = some (p, h)) :
    GoodQ w F M ((Builtin.unsafeSliceData_ ts ty #[v]).run P w) p hp h := by
  unfold sliceData at e
  split at e
  · split at e <;> try (cases e; done)
    rename_i hc
    cases e
    cases hx _ rfl with
    | row hm h1 h2 h3 h4 =>
      have := Nat.le_of_ble_eq_true hc
      exact GoodQ.of (Lib.run_unsafeSliceData_row _ ts ty _ _ _ (by omega)) (.ptr hm)
  · cases e
    cases hx _ rfl
    exact GoodQ.of (Lib.run_unsafeSliceData_nil _ ts ty 0 0) (.v rfl)
  · cases e

theorem unsStr_sound (hT : TOk P T) (hs : HS hp w F M) {t it ty : TypeId} {x n : Option PV} {v u : Value} (hx : ∀ q, x = some q → VR w F M q v) (hn : ∀ q, n = some q → VR w F M q u) {p : PV} {h : Hp} (e : unsStr T t hp x n = some (p, h)) :
    GoodV w F M ((Builtin.unsafeString_ #[t, it] ty #[v, u]).run P w) p h := by
  unfold unsStr at e
  split at e <;> try (cases e; done)
  · -- nothing
    split at e <;> try (cases e; done)
    · cases e
      cases hn _ rfl
      cases hx _ rfl
      exact GoodV.of hs (Lib.run_unsafeString_none w t it ty none) (.v rfl)
    · cases e
      cases hn _ rfl
      cases hx _ rfl with
      | ptr hm => exact GoodV.of hs (Lib.run_unsafeString_none w t it ty _) (.v rfl)
  · rename_i m
    split at e <;> try (cases e; done)
    rename_i id off
    cases hg : hp.get id with
    | none => simp [hg] at e
    | some b =>
      simp only [hg] at e
      cases hti : T.get t with
      | none => simp [hti] at e
      | some ti =>
        simp only [hti] at e
        cases hbi : T.get b.ty with
        | none => simp [hbi] at e
        | some bi =>
          simp only [hbi] at e
          split at e <;> try (cases e; done)
          rename_i hc
          simp only [Bool.and_eq_true] at hc
          obtain ⟨⟨⟨c1, c2⟩, c3⟩, c4⟩ := hc
          obtain ⟨tinfo, tu, tz, htz, _⟩ := hT.get hti
          obtain ⟨binfo, bu, bz, hbz, _⟩ := hT.get hbi
          obtain rfl := htz.k8 (Nat.eq_of_beq_eq_true c1)
          have c2 := Nat.eq_of_beq_eq_true c2
          have c3 := Nat.eq_of_beq_eq_true c3
          have c4 := Nat.le_of_ble_eq_true c4
          cases hcu : cut b.cells off (m + 1) with
          | none => simp [hcu] at e
          | some cs =>
            simp only [hcu] at e
            cases hl : bytesOf8 cs with
            | none => simp [hl] at e
            | some l =>
              simp only [hl] at e
              cases e
              cases hn _ rfl
              cases hx _ rfl with
              | ptr hm =>
                rename_i pl
                have br := hs.br id b pl hg hm
                obtain ⟨c, h1⟩ := br.ty.2
                obtain ⟨c', e', k1, k2, k3, k4⟩ := br.blk
                rw [h1] at k1; cases k1
                obtain ⟨q1, q2⟩ := cut_spec hcu
                have hlen : l.length = m + 1 := by
                  rw [bytesOf8_length hl, q1, List.length_take, List.length_drop]; omega
                have hsh : w.shape? pl.b = some (b.ty, c.size) := by simp [World.shape?, h1]
                have hcells : P.cellsOf b.ty = 1 := by simp [Program.cellsOf, hbz.hinfo, ← hbz.size, c3]
                have hrun := run_unsafeString_at (P := P) (w := w) t it ty b.ty (by rw [htz.und, c2]) hcells pl.b (pl.sh + off) c.size hsh l (by intro e; rw [e] at hlen; simp at hlen) (by have := br.n; omega) (by omega) (by
                  intro j x hj
                  have hjl : j < m + 1 := by rw [← hlen]; exact (List.getElem?_eq_some_iff.1 hj).1
                  have hcj : cs[j]? = some (.v (.int .u8 (x.toNat : Int))) := bytesOf8_get hl j x hj
                  have hbj : b.cells[off + j]? = some (.v (.int .u8 (x.toNat : Int))) := by
                    rw [q1, List.getElem?_take, if_pos hjl, List.getElem?_drop] at hcj
                    exact hcj
                  obtain ⟨_, y, y1, y2⟩ := k4 (off + j) _ hbj
                  cases y2
                  have hadd : ((⟨pl.b, pl.sh + off, none⟩ : Addr).add j) = ⟨pl.b, pl.sh + off + j, none⟩ := by
                    unfold Addr.add
                    by_cases hj0 : j = 0
                    · subst hj0; simp
                    · simp [hj0]
                  rw [hadd]
                  simp only [World.cell?, h1]
                  rw [show pl.sh + off + j = pl.sh + (off + j) by omega]
                  simpa using y1)
                rw [hlen] at hrun
                obtain ⟨g1, g2⟩ := hs.lose hg hm (w' := w.freeze ⟨pl.b, pl.sh + off, none⟩ (m + 1)) (by unfold World.freeze; split <;> rfl) (by unfold World.freeze; split <;> rfl) (by unfold World.freeze; split <;> rfl) (by unfold World.freeze; split <;> simp)
                  (fun k hk => freeze_other _ _ k hk) (fun o => freeze_cell h1 o)
                exact ⟨_, M, _, hrun, .v rfl, g1, g2⟩
end
end Go.Ev

/- Operations: each kind of them, as the code's own step takes it. -/
namespace Go.Ev
variable [Env]
section
variable {P : Program} {T : Types} {w : World} {F : Fz} {M : Mp} {hp : Hp}

def GoodNQ (w : World) (F : Fz) (M : Mp) (res : Result Next) (p : PV) (hp h : Hp) : Prop :=
  h = hp ∧ ∃ v, res = .ok (.value v) w ∧ VR w F M p v

def GoodNA (w : World) (F : Fz) (M : Mp) (res : Result Next) (p : PV) (hp h : Hp) : Prop :=
  ∃ (cs : List PV) (ys : Array Value) (t : TypeId) (sz : Nat) (v : Value), h = hp.new ⟨cs, sz, false, 0, t⟩ ∧ VL w F M cs ys.toList ∧ res = .ok (.value v) (w.alloc (.cells ys t)) ∧
    ∀ (w' : World) (F' : Fz) (M' : Mp), M' hp.next = some ⟨w.heap.size, 0, cs.length, ys.size, sz, false⟩ → VR w' F' M' p v

theorem GoodQ.next {p : PV} {h : Hp} {s : Sem Value} (g : GoodQ w F M (s.run P w) p hp h) : GoodNQ w F M ((do pure (Next.value (← s)) : Sem Next).run P w) p hp h := by
  obtain ⟨rfl, v, hr, hv⟩ := g
  exact ⟨rfl, v, by simp [hr], hv⟩

theorem GoodA.next {p : PV} {h : Hp} {s : Sem Value} (g : GoodA w F M (s.run P w) p hp h) : GoodNA w F M ((do pure (Next.value (← s)) : Sem Next).run P w) p hp h := by
  obtain ⟨cs, ys, t, sz, v, h1, h2, h3, h4⟩ := g
  exact ⟨cs, ys, t, sz, v, h1, h2, by simp [h3], h4⟩

theorem GoodNQ.goodN {p : PV} {h : Hp} {res : Result Next} (hs : HS hp w F M) (g : GoodNQ w F M res p hp h) : GoodN w F M res p h := by
  obtain ⟨rfl, v, hr, hv⟩ := g
  exact ⟨w, M, .inl ⟨v, hr, hv⟩, hs, Ext.refl w F M⟩

theorem GoodNA.goodN {p : PV} {h : Hp} {res : Result Next} (hs : HS hp w F M) (g : GoodNA w F M res p hp h) : GoodN w F M res p h := by
  obtain ⟨cs, ys, t, sz, v, rfl, hv, hr, hvr⟩ := g
  have h := hs.new cs ys.toList [] t sz false 0 hv
  simp only [List.append_nil, Array.toArray_toList, Array.length_toList] at h
  exact ⟨_, _, .inl ⟨v, hr, hvr _ _ _ (Mp.up_self _ _ _)⟩, h.1, h.2⟩

theorem TS.opd' {tm : Tm} {a : Act} (h : TS tm a w F M) (x : Operand) : ∀ q, Ev.opd x tm = some q → VR w F M q (a.eval x) := fun _ hq => h.opd hq

/-- an operation that does nothing to the heap -/
theorem prim_pure (hT : TOk P T) {tm : Tm} {a : Act} (ht : TS tm a w F M) (o : Oper) (hk : opKind o.op = .pure) {p : PV} {h : Hp} (e : prim T o.op hp tm = some (p, h)) :
    GoodNQ w F M ((execOp a.eval o).run P w) p hp h := by
  obtain ⟨dst, op, type, pos, after, guard⟩ := o
  cases op <;> simp only [prim] at e <;> try (cases e; done)
  case move x =>
    obtain ⟨e1, rfl⟩ := ret1_some e
    exact ⟨rfl, _, rfl, ht.opd e1⟩
  case assign x =>
    obtain ⟨e1, rfl⟩ := ret1_some e
    exact ⟨rfl, _, rfl, ht.opd e1⟩
  case pick c x y =>
    unfold primPick at e
    split at e
    · rename_i hc
      obtain ⟨e1, rfl⟩ := ret1_some e
      have h1 := ht.opd hc
      refine ⟨rfl, a.eval x, ?_, ht.opd e1⟩
      generalize hcv : a.eval c = cv at h1
      cases h1
      simp [execOp, hcv, asBool]
    · rename_i hc
      obtain ⟨e1, rfl⟩ := ret1_some e
      have h1 := ht.opd hc
      refine ⟨rfl, a.eval y, ?_, ht.opd e1⟩
      generalize hcv : a.eval c = cv at h1
      cases h1
      simp [execOp, hcv, asBool]
    · cases e
  case build t parts => exact (build_sound hT ht e).next
  case nilCheck x =>
    unfold primNil at e
    split at e <;> try (cases e; done)
    all_goals
      rename_i hc
      cases e
      have h1 := ht.opd hc
      refine ⟨rfl, a.eval x, ?_, h1⟩
      generalize hcv : a.eval x = cv at h1
      cases h1
      simp [execOp, hcv]
  case binOp op xt x y yt => exact (bin_sound hT (ht.opd' x) (ht.opd' y) e).next
  case unOp op xt x =>
    unfold primUn at e
    cases hx : opd x tm with
    | none => simp [hx] at e
    | some q =>
      simp only [hx] at e
      have e2 := ret1_some e
      clear e
      obtain ⟨e, rfl⟩ := e2
      obtain ⟨y, h1, h2⟩ := una_sound (P := P) (ht.opd hx) e
      exact ⟨rfl, y, by simp [execOp, h1], h2⟩
  case convert s d x => simp [opKind] at hk
  case makeMap t x => simp [opKind] at hk
  case lookup t x k ok => simp [opKind] at hk
  case mapUpdate t x k v => simp [opKind] at hk
  case insert t x k v => simp [opKind] at hk
  case makeInterface t x => exact (iface_sound hT (ht.opd' x) e).next
  case makeFunc fn first caps =>
    unfold primFunc at e
    split at e <;> try (cases e; done)
    rename_i f l hl
    obtain ⟨h1, h2⟩ := ht.opds hl
    split at e
    · rename_i hf
      cases e
      refine ⟨rfl, .func (.func f) #[] (caps.toList.map a.eval).toArray, ?_, .clo h1 h2⟩
      have hfe : first = #[] := by simpa using hf
      subst hfe
      have hm : (List.map a.eval caps.toList).toArray = caps.map a.eval := by rw [← Array.toList_map, Array.toArray_toList]
      rw [hm]
      simp [execOp, Instr.makeFunc]
    · split at e <;> try (cases e; done)
      split at e <;> try (cases e; done)
      rename_i m hm'
      cases e
      obtain ⟨g1, g2⟩ := ht.opds hm'
      refine ⟨rfl, .func (.func f) (first.toList.map a.eval).toArray #[], ?_, .bnd g1 g2⟩
      have hce : caps = #[] := by
        have : caps.toList.length = 0 := by simpa using h1
        apply Array.ext'
        simpa using List.length_eq_zero_iff.1 this
      subst hce
      have hm : (List.map a.eval first.toList).toArray = first.map a.eval := by rw [← Array.toList_map, Array.toArray_toList]
      rw [hm]
      simp [execOp, Instr.makeFunc]
  case slice t x lo hi mx =>
    unfold primSlice at e
    cases hx : opd x tm with
    | none => simp [hx] at e
    | some q =>
      cases hlo : opdO lo tm with
      | none => simp [hx, hlo] at e
      | some l =>
        cases hhi : opdO hi tm with
        | none => simp [hx, hlo, hhi] at e
        | some h' =>
          cases hmx : opdO mx tm with
          | none => simp [hx, hlo, hhi, hmx] at e
          | some m =>
            simp only [hx, hlo, hhi, hmx] at e
            have e2 := ret1_some e
            clear e
            obtain ⟨e, rfl⟩ := e2
            exact (sliceOf_sound hT (ht.opd hx) (ht.opdO hlo) (ht.opdO hhi) (ht.opdO hmx) e).next
  case fieldAddr s x f => exact (fieldAddr_sound hT (ht.opd' x) e).next
  case field s x f => exact (field_sound hT (ht.opd' x) e).next
  case indexAddr t x i => exact (indexAddr_sound hT (ht.opd' x) (ht.opd' i) e).next
  case index t x i => exact (index_sound hT (ht.opd' x) (ht.opd' i) e).next
  case extract x i => exact (extract_sound (ht.opd' x) e).next
  case alloc t => simp [opKind] at hk
  case box t x => simp [opKind] at hk
  case buildSlice t n ps => simp [opKind] at hk
  case makeSlice t x y => simp [opKind] at hk
  case load t x => simp [opKind] at hk
  case store t x y => simp [opKind] at hk
  case call c =>
    obtain ⟨callee, args, ats⟩ := c
    cases callee <;> simp only [] at e <;> try (cases e; done)
    rename_i b
    cases b <;> simp only [primBuiltin] at e <;> try (cases e; done)
    case len =>
      rcases ha : args.toList with _ | ⟨x, _ | ⟨y, r⟩⟩ <;> rcases hts : ats.toList with _ | ⟨t, _ | ⟨u, s⟩⟩ <;> simp only [ha, hts] at e <;> try (cases e; done)
      have h1 : args = #[x] := by apply Array.ext'; simpa using ha
      have h2 : ats = #[t] := by apply Array.ext'; simpa using hts
      subst h1; subst h2
      have g := (len_sound (P := P) (ty := type) hT (ht.opd' x) e).next
      simpa [execOp, resolve, invoke, builtin] using g
    case append => simp [opKind] at hk
    case copy => simp [opKind] at hk
    case cap => simp [opKind] at hk
    case clear => simp [opKind] at hk
    case unsafeString => simp [opKind] at hk
    case unsafeSliceData =>
      rcases ha : args.toList with _ | ⟨x, _ | ⟨y, r⟩⟩ <;> simp only [ha] at e <;> try (cases e; done)
      have h1 : args = #[x] := by apply Array.ext'; simpa using ha
      subst h1
      have g := (sliceData_sound (P := P) (ts := ats) (ty := type) (ht.opd' x) e).next
      simpa [execOp, resolve, invoke, builtin] using g
    case max =>
      have g := (minmax_sound (P := P) (mx := true) (fun ps h => ht.opds h) e ats type).next
      rw [← Array.toList_map, Array.toArray_toList] at g
      simpa [execOp, resolve, invoke, builtin] using g
    case min =>
      have g := (minmax_sound (P := P) (mx := false) (fun ps h => ht.opds h) e ats type).next
      rw [← Array.toList_map, Array.toArray_toList] at g
      simpa [execOp, resolve, invoke, builtin] using g

/-- an operation that makes a block -/
theorem prim_alloc (hT : TOk P T) {tm : Tm} {a : Act} (ht : TS tm a w F M) (o : Oper) (hk : opKind o.op = .alloc) {p : PV} {h : Hp} (e : prim T o.op hp tm = some (p, h)) :
    GoodNA w F M ((execOp a.eval o).run P w) p hp h := by
  obtain ⟨dst, op, type, pos, after, guard⟩ := o
  cases op <;> simp only [prim] at e <;> try (cases e; done)
  case alloc t => exact (alloc_sound hT e).next
  case box t x => exact (box_sound (ht.opd' x) e).next
  case buildSlice t n ps => exact (buildSlice_sound hT ht e).next
  case makeSlice t x y => exact (make_sound hT (ht.opd' x) (ht.opd' y) e).next
  case call c =>
    obtain ⟨callee, args, ats⟩ := c
    cases callee <;> simp only [opKind] at hk <;> try (cases hk; done)
    rename_i b
    cases b <;> simp at hk
  all_goals (simp [opKind] at hk)

/-- an operation that loads -/
theorem prim_load {tm : Tm} (o : Oper) (hk : opKind o.op = .load) {p : PV} {h : Hp} (e : prim T o.op hp tm = some (p, h)) :
    ∃ t x q, o.op = .load t x ∧ opd x tm = some q ∧ loadAt T hp t q = some p ∧ h = hp := by
  obtain ⟨dst, op, type, pos, after, guard⟩ := o
  cases op <;> simp only [prim] at e <;> try (cases e; done)
  case load t x =>
    unfold primLoad at e
    cases hx : opd x tm with
    | none => simp [hx] at e
    | some q =>
      simp only [hx] at e
      have e2 := ret1_some e
      exact ⟨t, x, q, rfl, hx, e2.1, e2.2⟩
  case call c =>
    obtain ⟨callee, args, ats⟩ := c
    cases callee <;> simp only [opKind] at hk <;> try (cases hk; done)
    rename_i b
    cases b <;> simp at hk
  all_goals (simp [opKind] at hk)

theorem load_sound (hT : TOk P T) (hs : HS hp w F M) {tm : Tm} {a : Act} (ht : TS tm a w F M) {o : Oper} {t : TypeId} {x : Operand} (ho : o.op = .load t x) {q p : PV} (hx : opd x tm = some q) (hl : loadAt T hp t q = some p) :
    GoodNQ w F M ((execOp a.eval o).run P w) p hp hp := by
  obtain ⟨y, h1, h2⟩ := loadAt_sound hT hs (ht.opd hx) hl
  exact ⟨rfl, y, by simp [execOp, ho, h1], h2⟩

/-- an operation that changes blocks -/
theorem prim_eff (hT : TOk P T) (hs : HS hp w F M) {tm : Tm} {a : Act} (ht : TS tm a w F M) (o : Oper) (hk : opKind o.op = .eff) {p : PV} {h : Hp} (e : prim T o.op hp tm = some (p, h)) :
    GoodN w F M ((execOp a.eval o).run P w) p h := by
  obtain ⟨dst, op, type, pos, after, guard⟩ := o
  cases op <;> simp only [prim] at e <;> try (cases e; done)
  case store t x y =>
    unfold primStore at e
    cases hx : opd x tm with
    | none => simp [hx] at e
    | some q =>
      cases hy : opd y tm with
      | none => simp [hx, hy] at e
      | some r =>
        simp only [hx, hy] at e
        cases hst : storeAt T hp t q r with
        | none => simp [hst, stored] at e
        | some h' =>
          simp only [hst, stored] at e; cases e
          obtain ⟨w', h1, h2, h3⟩ := storeAt_sound hT hs (ht.opd hx) (ht.opd hy) hst
          exact ⟨w', M, .inr ⟨by simp [execOp, h1], rfl⟩, h2, h3⟩
  case lookup t x k ok => exact ((look_sound hT hs (ht.opd' x) (ht.opd' k) e).next).goodN hs
  case call c =>
    obtain ⟨callee, args, ats⟩ := c
    cases callee <;> simp only [] at e <;> try (cases e; done)
    rename_i b
    cases b <;> simp only [primBuiltin] at e <;> try (simp [opKind] at hk; done)
    case append =>
      rcases ha : args.toList with _ | ⟨x, _ | ⟨y, _ | ⟨z, r⟩⟩⟩ <;> rcases hts : ats.toList with _ | ⟨t, _ | ⟨u, _ | ⟨v, s⟩⟩⟩ <;> simp only [ha, hts] at e <;> try (cases e; done)
      have h1 : args = #[x, y] := by apply Array.ext'; simpa using ha
      have h2 : ats = #[t, u] := by apply Array.ext'; simpa using hts
      subst h1; subst h2
      cases htu : Nat.beq t u with
      | false =>
        simp only [htu] at e
        unfold prim2 at e
        cases hx : opd x tm with
        | none => simp [hx] at e
        | some q =>
          cases hy : opd y tm with
          | none => simp [hx, hy] at e
          | some r =>
            simp only [hx, hy] at e
            have g := (appZ_sound (P := P) (ty := type) hT hs (ht.opd hx) (ht.opd hy) e).next
            simpa [execOp, resolve, invoke, builtin] using g
      | true =>
        obtain rfl := Nat.eq_of_beq_eq_true htu
        simp only [htu] at e
        unfold prim2 at e
        cases hx : opd x tm with
        | none => simp [hx] at e
        | some q =>
          cases hy : opd y tm with
          | none => simp [hx, hy] at e
          | some r =>
            simp only [hx, hy] at e
            have g := (app_sound (P := P) (ty := type) hT hs (ht.opd hx) (ht.opd hy) e).next
            simpa [execOp, resolve, invoke, builtin] using g
    case copy =>
      rcases ha : args.toList with _ | ⟨x, _ | ⟨y, _ | ⟨z, r⟩⟩⟩ <;> rcases hts : ats.toList with _ | ⟨t, _ | ⟨u, _ | ⟨v, s⟩⟩⟩ <;> simp only [ha, hts] at e <;> try (cases e; done)
      have h1 : args = #[x, y] := by apply Array.ext'; simpa using ha
      have h2 : ats = #[t, u] := by apply Array.ext'; simpa using hts
      subst h1; subst h2
      cases htu : Nat.beq t u with
      | false => simp [htu] at e
      | true =>
        obtain rfl := Nat.eq_of_beq_eq_true htu
        simp only [htu] at e
        unfold prim2 at e
        cases hx : opd x tm with
        | none => simp [hx] at e
        | some q =>
          cases hy : opd y tm with
          | none => simp [hx, hy] at e
          | some r =>
            simp only [hx, hy] at e
            have g := (copy_sound (P := P) (ty := type) hT hs (ht.opd hx) (ht.opd hy) e).next
            simpa [execOp, resolve, invoke, builtin] using g
    case unsafeString =>
      rcases ha : args.toList with _ | ⟨x, _ | ⟨y, _ | ⟨z, r⟩⟩⟩ <;> rcases hts : ats.toList with _ | ⟨t, _ | ⟨u, _ | ⟨v, s⟩⟩⟩ <;> simp only [ha, hts] at e <;> try (cases e; done)
      have h1 : args = #[x, y] := by apply Array.ext'; simpa using ha
      have h2 : ats = #[t, u] := by apply Array.ext'; simpa using hts
      subst h1; subst h2
      have g := (unsStr_sound (P := P) (it := u) (ty := type) hT hs (ht.opd' x) (ht.opd' y) e).next
      simpa [execOp, resolve, invoke, builtin] using g
  all_goals (simp [opKind] at hk)

/-- operations that regions that draw their order don't take -/
theorem prim_bad (hT : TOk P T) (hs : HS hp w F M) {tm : Tm} {a : Act} (ht : TS tm a w F M) (o : Oper) (hk : opKind o.op = .bad) {p : PV} {h : Hp} (e : prim T o.op hp tm = some (p, h)) :
    GoodN w F M ((execOp a.eval o).run P w) p h := by
  obtain ⟨dst, op, type, pos, after, guard⟩ := o
  cases op <;> simp only [prim] at e <;> try (first | (cases e; done) | (simp [opKind] at hk; done))
  case makeMap t x => 
    have g := (newMap_sound (P := P) (ρ := a.eval) hT hs (fun o q _ hq => ht.opd hq) e).next
    simpa [execOp] using g
  case mapUpdate t x k v =>
    obtain ⟨w', rfl, h1, h2, h3⟩ := upd_sound (P := P) hT hs (ht.opd' x) (ht.opd' k) (ht.opd' v) e
    exact ⟨w', M, .inr ⟨by simp [execOp, h1], rfl⟩, h2, h3⟩
  case insert t x k v =>
    obtain ⟨w', rfl, h1, h2, h3⟩ := upd_sound (P := P) hT hs (ht.opd' x) (ht.opd' k) (ht.opd' v) e
    exact ⟨w', M, .inr ⟨by simp [execOp, h1], rfl⟩, h2, h3⟩
  case call c =>
    obtain ⟨callee, args, ats⟩ := c
    cases callee <;> simp only [] at e <;> try (cases e; done)
    rename_i b
    cases b <;> simp only [primBuiltin] at e <;> try (first | (cases e; done) | (simp [opKind] at hk; done))
    case cap =>
      rcases ha : args.toList with _ | ⟨x, _ | ⟨y, r⟩⟩ <;> rcases hts : ats.toList with _ | ⟨t, _ | ⟨u, s⟩⟩ <;> simp only [ha, hts] at e <;> try (cases e; done)
      have h1 : args = #[x] := by apply Array.ext'; simpa using ha
      have h2 : ats = #[t] := by apply Array.ext'; simpa using hts
      subst h1; subst h2
      have g := ((cap_sound (P := P) (ty := type) hT hs (ht.opd' x) e).next).goodN hs
      simpa [execOp, resolve, invoke, builtin] using g
    case clear =>
      rcases ha : args.toList with _ | ⟨x, _ | ⟨y, r⟩⟩ <;> rcases hts : ats.toList with _ | ⟨t, _ | ⟨u, s⟩⟩ <;> simp only [ha, hts] at e <;> try (cases e; done)
      have h1 : args = #[x] := by apply Array.ext'; simpa using ha
      have h2 : ats = #[t] := by apply Array.ext'; simpa using hts
      subst h1; subst h2
      cases hx : opd x tm with
      | none =>
        exfalso
        unfold primClear at e
        rw [hx] at e
        cases hi : T.get t with
        | none => simp [hi] at e
        | some i =>
          simp only [hi] at e
          cases hk1 : Nat.beq i.kind 1 with
          | false => simp [hk1] at e
          | true =>
            simp only [hk1] at e
            cases hj : T.get i.elem <;> simp [hj] at e
      | some q =>
        rw [hx] at e
        have g := (clear_sound (P := P) (ty := type) hT hs (ht.opd hx) e).next
        simpa [execOp, resolve, invoke, builtin] using g

theorem prim_conv (hT : TOk P T) (hs : HS hp w F M) {tm : Tm} {a : Act} (ht : TS tm a w F M) (o : Oper) (hk : opKind o.op = .conv) {p : PV} {h : Hp} (e : prim T o.op hp tm = some (p, h)) :
    GoodNQ w F M ((execOp a.eval o).run P w) p hp h := by
  obtain ⟨dst, op, type, pos, after, guard⟩ := o
  cases op <;> simp only [prim] at e <;> try (first | (cases e; done) | (simp [opKind] at hk; done))
  case convert s d x => exact (conv_all hT hs (ht.opd' x) e).next
  case call c =>
    obtain ⟨callee, args, ats⟩ := c
    cases callee <;> simp only [opKind] at hk <;> try (cases hk; done)
    rename_i b
    cases b <;> simp at hk

theorem prim_conv_int (hT : TOk P T) {tm : Tm} {a : Act} (ht : TS tm a w F M) (o : Oper) (hk : opKind o.op = .conv) {k : IntKind} {n : Int} {h : Hp} (e : prim T o.op hp tm = some (.v (.int k n), h)) :
    GoodNQ w F M ((execOp a.eval o).run P w) (.v (.int k n)) hp h := by
  obtain ⟨dst, op, type, pos, after, guard⟩ := o
  cases op <;> simp only [prim] at e <;> try (first | (cases e; done) | (simp [opKind] at hk; done))
  case convert s d x => exact (conv_int hT (ht.opd' x) e).next
  case call c =>
    obtain ⟨callee, args, ats⟩ := c
    cases callee <;> simp only [opKind] at hk <;> try (cases hk; done)
    rename_i b
    cases b <;> simp at hk

/-- an operation that enters no function -/
theorem prim_sound (hT : TOk P T) (hs : HS hp w F M) {tm : Tm} {a : Act} (ht : TS tm a w F M) (o : Oper) {p : PV} {h : Hp} (e : prim T o.op hp tm = some (p, h)) :
    GoodN w F M ((execOp a.eval o).run P w) p h := by
  cases hk : opKind o.op with
  | bad => exact prim_bad hT hs ht o hk e
  | conv => exact (prim_conv hT hs ht o hk e).goodN hs
  | pure => exact (prim_pure hT ht o hk e).goodN hs
  | alloc => exact (prim_alloc hT ht o hk e).goodN hs
  | eff => exact prim_eff hT hs ht o hk e
  | load =>
    obtain ⟨t, x, q, h1, h2, h3, rfl⟩ := prim_load o hk e
    exact (load_sound hT hs ht h1 h2 h3).goodN hs
end
end Go.Ev
