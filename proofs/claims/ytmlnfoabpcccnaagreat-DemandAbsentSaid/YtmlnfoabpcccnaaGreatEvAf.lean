/- Operations: append, every case. -/
import Derived.Test.YtmlnfoabpcccnaaGreatEvAe
import Derived.Laws.BytesArg
import Derived.Lib.Builder
import Derived.MapKept
import Derived.Laws.IdiomRangeMap
set_option linter.all false
/- Operations: append, every case. -/
namespace Go.Ev
variable [Env]
section
variable {P : Program} {T : Types} {w : World} {F : Fz} {M : Mp} {hp : Hp}

/-- an append where there is room -/
theorem append_room {st e u : TypeId} {info : TypeInfo} {z x : Value} (hu : P.underlying st = some (.slice e)) (hi : P.info? e = some info) (hzl : z.cells.size = info.size) {g o len cap n : Nat} {cur : Array Value} {be : TypeId}
    (hg : w.heap[g]? = some (.cells cur be (0, 0))) {zs : List Value} (hn : Src P w u info z x n zs) (h1 : ∀ v ∈ zs, v.oneCell' = true)
    (hroom : len + n ≤ cap) (hfit : o + len * info.size + zs.length ≤ cur.size) (ty : TypeId) :
    (Builtin.append_ #[st, u] ty #[.slice (some ⟨g, o, none⟩) len cap, x]).run P w =
      .ok (.slice (some ⟨g, o, none⟩) (len + n) cap) (w.setRow g (cur.toList.take (o + len * info.size) ++ zs ++ cur.toList.drop (o + len * info.size + zs.length)).toArray) := by
  have hst := run_storeCells_at P g (o + len * info.size) be zs 0 cur w hg (by simpa using hfit) h1
  simp only [Nat.add_zero] at hst
  cases hn with
  | of hud hni hlen hfc =>
    have hfn := hfc w rfl
    simp [Builtin.append_, run_underlying hu, run_underlying hud, sizeOf, typeInfo, hi, hlen, hroom, hfn, Addr.add_lit, hst]
  | zero hud hx h3 h4 h5 h6 =>
    subst hx
    have hnb : ¬ (281474976710656 < (n : Int) * (info.bytes : Int)) := by
      have : ((n * info.bytes : Nat) : Int) ≤ 281474976710656 := Int.ofNat_le.mpr h3
      push_cast at this
      omega
    have hz0 : ¬ ((n : Int) < 0) := by omega
    by_cases hq : n * info.size = 0
    · have hzs : zs = [] := by rw [h6, zc_zero hq hzl]
      rw [hzs] at hst
      simp [Builtin.append_, run_underlying hu, run_underlying hud, sizeOf, typeInfo, hi, asInt, asIntOf, wrap_small h4, hz0, hnb, hroom, hq, Addr.add_lit, hst, hzs]
    · rw [h6] at hst ⊢
      simp [Builtin.append_, run_underlying hu, run_underlying hud, sizeOf, typeInfo, zeroValue, hi, h5, asInt, asIntOf, wrap_small h4, hz0, hnb, hroom, hq, Addr.add_lit, hst]

/-- an append of nothing -/
theorem append_none {st e u : TypeId} {info : TypeInfo} {z x : Value} (hu : P.underlying st = some (.slice e)) (hi : P.info? e = some info) {a : Option Addr} {len cap : Nat}
    (hn : Src P w u info z x 0 []) (hroom : len ≤ cap) (ty : TypeId) :
    (Builtin.append_ #[st, u] ty #[.slice a len cap, x]).run P w = .ok (.slice a len cap) w := by
  cases hn with
  | of hud hni hlen hfc =>
    have hfn := hfc w rfl
    cases a <;> simp [Builtin.append_, run_underlying hu, run_underlying hud, sizeOf, typeInfo, hi, hlen, hroom, hfn, storeCells]
  | zero hud hx h3 h4 h5 h6 =>
    subst hx
    have hw := wrap_small (n := 0) (by omega)
    cases a <;> simp [Builtin.append_, run_underlying hu, run_underlying hud, sizeOf, typeInfo, hi, asInt, asIntOf, hroom, storeCells, hw, show IntKind.i64.wrap 0 = 0 from hw]

theorem appTo_sound (hs : HS hp w F M) {t ty u : TypeId} {e1 : TypeId} {info : TypeInfo} {jz : Value} {ei : TyI} (hu : P.underlying t = some (.slice e1)) (hinfo : P.info? e1 = some info) (hzero : info.zero = some jz) (hsz : ei.size = info.size) (hby : ei.bytes = info.bytes)
    (c1 : 1 ≤ ei.size) (c2 : 1 ≤ ei.bytes) (hzl : jz.cells.size = ei.size) {x : PV} {v y : Value} (hx : VR w F M x v) {n : Nat} {new : List PV} {zs : List Value} (hv1 : VL w F M new zs) (hzn : zs.length = n * ei.size)
    (hsrc : Src P w u info jz y n zs) {p : PV} {h : Hp} (e : appTo hp e1 ei x n new = some (p, h)) : GoodV w F M ((Builtin.append_ #[t, u] ty #[v, y]).run P w) p h := by
  have hz0 : n = 0 → zs = [] := fun h => by subst h; exact List.length_eq_zero_iff.1 (by rw [hzn]; simp)
  have none_ok : n = 0 → ∀ {a len cap}, len ≤ cap → (Builtin.append_ #[t, u] ty #[.slice a len cap, y]).run P w = .ok (.slice a len cap) w := by
    intro h0 a len cap hle
    have h3 := hsrc
    rw [hz0 h0] at h3
    subst h0
    exact append_none hu hinfo h3 hle ty
  unfold appTo at e
  split at e
  · -- nil
    cases hx
    unfold appNil at e
    cases h0 : Nat.beq n 0 with
    | true =>
      simp only [h0] at e; cases e
      exact GoodV.of hs (none_ok (Nat.eq_of_beq_eq_true h0) (Nat.le_refl _)) (.v rfl)
    | false =>
      simp only [h0] at e
      have hn0 : n ≠ 0 := by intro h; subst h; simp at h0
      cases hl : limited n ei.bytes with
      | false => simp [hl] at e
      | true =>
        simp only [hl] at e
        unfold newRow at e; cases e
        have := append_new (P := P) hs (st := t) (old := []) (ys := []) (s := .slice none 0 0) hu hinfo hzero hsz.symm hzl (by rw [← hby]; exact c2) rfl (by omega) (by rw [Nat.zero_add, ← hby]; exact hl)
          VL.nil hv1 (by simp) hzn (fun {w'} _ => by simp [Builtin.firstCells]) hsrc 0 ty
        simpa using this
  · -- a slice that is a value
    rename_i es ex
    unfold appSl at e
    cases h0 : Nat.beq n 0 with
    | true =>
      simp only [h0] at e; cases e
      have hx' := hx
      cases hx with
      | sl g1 g2 g3 g4 g5 => exact GoodV.of hs (none_ok (Nat.eq_of_beq_eq_true h0) g2) hx'
    | false =>
      simp only [h0] at e
      have hn0 : n ≠ 0 := by intro h; subst h; simp at h0
      cases hl : (ex && sized ei.size es && limited (es.length + n) ei.bytes) with
      | false => simp [hl] at e
      | true =>
        simp only [hl] at e
        unfold newRow at e; cases e
        simp only [Bool.and_eq_true] at hl
        cases hx with
        | sl g1 g2 g3 g4 g5 =>
          rename_i b o cap sz f
          obtain ⟨ys, k1, k2, k3⟩ := sl_cells (M := M) (by omega) hl.1.2 g3 g4 g5
          have hcap := g1 hl.1.1
          exact append_new (P := P) hs (st := t) hu hinfo hzero hsz.symm hzl (by rw [← hby]; exact c2) rfl (by omega) (by rw [← hby]; exact hl.2)
            k1 hv1 k2 hzn (fun {w'} hw' => firstCells_some k2 fun j y hy => by rw [World.cell?_of_block (w := w) (w' := w') (by rw [hw'])]; exact k3 j y hy) hsrc 0 ty
  · -- a row
    rename_i id off len cap rs'
    unfold appRow at e
    cases hg : hp.get id with
    | none => simp [hg] at e
    | some b =>
      simp only [hg] at e
      cases hb : Nat.beq b.sz ei.size with
      | false => simp [hb] at e
      | true =>
        simp only [hb] at e
        have hb := Nat.eq_of_beq_eq_true hb
        have hx' := hx
        cases hx with
        | row hm h0 h1 h2 h3 =>
          rename_i cap' pl
          have br := hs.br id b pl hg hm
          have hps : pl.sz = ei.size := br.sz.trans hb
          cases hle : Nat.ble (len + n) cap with
          | true =>
            simp only [hle] at e
            have hle := Nat.le_of_ble_eq_true hle
            have hcc : cap ≤ cap' := by
              rcases h3 with h | h
              · omega
              · exact h.2.2.1
            unfold appIn at e
            cases h0 : Nat.beq n 0 with
            | true =>
              simp only [h0] at e; cases e
              exact GoodV.of hs (none_ok (Nat.eq_of_beq_eq_true h0) (by omega)) (.row hm br.sz h1 h2 h3)
            | false =>
              simp only [h0] at e
              cases hf : Nat.ble b.frz (off + len * b.sz) with
              | false => simp [hf] at e
              | true =>
                simp only [hf] at e
                cases hp' : putAt b.cells (off + len * b.sz) new with
                | none => simp [hp'] at e
                | some cs =>
                  simp only [hp'] at e; cases e
                  obtain ⟨c, e', k1, k2, k3, k4⟩ := hs.set hg hm hp' (Nat.le_of_ble_eq_true hf) hv1
                  have hoff : pl.sh + (off + len * b.sz) = pl.sh + off + len * info.size := by rw [hb, hsz]; omega
                  have hr := append_room (P := P) (w := w) hu hinfo (by rw [hzl]; exact hsz) (o := pl.sh + off) (len := len) (cap := cap') k1 hsrc (oneCells hv1) (by omega) (by rw [← hoff]; exact k2) ty
                  rw [← hoff] at hr
                  exact ⟨_, _, _, hr, .row hm br.sz hle h2 h3, k3, k4⟩
          | false =>
            simp only [hle] at e
            have hle : cap < len + n := by
              rcases Nat.lt_or_ge cap (len + n) with h | h
              · exact h
              · rw [Nat.ble_eq_true_of_le h] at hle; cases hle
            unfold appOut at e
            cases hl : limited (len + n) ei.bytes with
            | false => simp [hl] at e
            | true =>
              simp only [hl] at e
              cases hcu : cut b.cells off (len * b.sz) with
              | none => simp [hcu] at e
              | some old =>
                simp only [hcu] at e
                obtain ⟨ys, r1, r2, r3⟩ := hs.read hg hm hcu
                have r2' : ys.length = len * ei.size := by rw [r2, hb]
                have hfo : ∀ {w' : World} {c : Nat}, w'.heap = w.heap → (Builtin.firstCells ei.size len (.slice (some ⟨pl.b, pl.sh + off, none⟩) len c)).run P w' = .ok ys.toArray w' :=
                  fun {w'} {c} hw' => firstCells_some r2' fun j y hy => by rw [World.cell?_of_block (w := w) (w' := w') (by rw [hw'])]; exact r3 j y hy
                cases hlo : (!b.loose || Nat.blt (off + cap * b.sz) b.cells.length) with
                | true =>
                  simp only [hlo] at e
                  unfold newRow at e; cases e
                  have hcc : cap' = cap := by
                    rcases h3 with h | ⟨g1, g2, _, _⟩
                    · exact h
                    · rw [br.loose] at g1
                      simp only [g1, Bool.not_true, Bool.false_or] at hlo
                      have := Nat.le_of_ble_eq_true hlo
                      rw [br.n, br.sz] at g2
                      omega
                  subst hcc
                  rw [hb]
                  exact append_new (P := P) hs (st := t) hu hinfo hzero hsz.symm hzl (by rw [← hby]; exact c2) rfl hle (by rw [← hby]; exact hl) r1 hv1 r2' hzn (fun {w'} hw' => hfo hw') hsrc 0 ty
                | false =>
                  simp only [hlo] at e
                  cases hfz : (Nat.beq len cap && Nat.ble b.frz (off + len * b.sz) && Nat.beq b.ty e1) with
                  | false => simp [hfz] at e
                  | true =>
                    simp only [hfz] at e
                    unfold newRow at e; cases e
                    simp only [Bool.and_eq_true] at hfz
                    have hlc := Nat.eq_of_beq_eq_true hfz.1.1
                    have hfz' := Nat.le_of_ble_eq_true hfz.1.2
                    have hty := Nat.eq_of_beq_eq_true hfz.2
                    clear hfz
                    subst hlc
                    simp only [Bool.or_eq_false_iff, Bool.not_eq_false'] at hlo
                    have hend : off + len * b.sz = b.cells.length := by
                      rw [br.n, br.sz] at h2
                      have : ¬ (off + len * b.sz < b.cells.length) := by
                        intro h
                        have := Nat.ble_eq_true_of_le h
                        rw [show Nat.blt (off + len * b.sz) b.cells.length = Nat.ble (off + len * b.sz + 1) b.cells.length from rfl] at hlo
                        rw [this] at hlo
                        exact absurd hlo.2 (by simp)
                      omega
                    rw [hb]
                    by_cases hroom : len + n ≤ cap'
                    · obtain ⟨g1, g2, g3, g4⟩ : pl.loose = true ∧ off + len * pl.sz = pl.n ∧ len ≤ cap' ∧ pl.sh + off + cap' * pl.sz ≤ pl.B := by
                        rcases h3 with h | h
                        · omega
                        · exact h
                      have hmul : (len + n) * ei.size ≤ cap' * ei.size := Nat.mul_le_mul_right _ hroom
                      rw [Nat.add_mul] at hmul
                      rw [hps] at g4 g2
                      have g5 : pl.sh + pl.n = pl.sh + off + len * ei.size := by omega
                      obtain ⟨c, e', k1, k2, k3⟩ := hs.grow hg hm (off := off) (by omega) (by rw [br.n, ← hend]; exact hfz') hv1 (by omega) (sz := ei.size)
                      have hr := append_room (P := P) (w := w) hu hinfo (by rw [hzl]; exact hsz) (o := pl.sh + off) (len := len) (cap := cap') k1 hsrc (oneCells hv1) hroom (by rw [← hsz, ← g5]; exact k2) ty
                      rw [← hsz, ← g5] at hr
                      have hold : b.cells.drop off = old := by
                        obtain ⟨q1, q2⟩ := cut_spec hcu
                        rw [q1, List.take_of_length_le (by simp; omega)]
                      rw [hold, hty] at k3
                      have hol : (old ++ new).length = (len + n) * ei.size := by rw [List.length_append, ← r1.1, ← hv1.1, r2', hzn, Nat.add_mul]
                      refine ⟨_, _, _, hr, ?_, k3.1, k3.2⟩
                      have := VR.row (w := w.setRow pl.b (c.toList.take (pl.sh + pl.n) ++ zs ++ c.toList.drop (pl.sh + pl.n + zs.length)).toArray) (F := F) (M := M.up hp.next ⟨pl.b, pl.sh + off, (old ++ new).length, pl.B, ei.size, true⟩)
                        (id := hp.next) (off := 0) (len := len + n) (cap := len + n) (cap' := cap') (Mp.up_self _ _ _) rfl (Nat.le_refl _) (by simp only [hol]; omega)
                        (.inr ⟨rfl, by simp only [hol]; omega, hroom, by simp only; omega⟩)
                      rw [show (hp.kill id).next = hp.next from rfl]
                      simpa using this
                    · have hsk := hs.kill id
                      exact append_new (P := P) hsk (st := t) hu hinfo hzero hsz.symm hzl (by rw [← hby]; exact c2) rfl (by omega) (by rw [← hby]; exact hl) r1 hv1 r2' hzn (fun {w'} hw' => hfo hw') hsrc (b.frz - off) ty
  · cases e

theorem app_sound (hT : TOk P T) (hs : HS hp w F M) {t ty : TypeId} {x y : PV} {v u : Value} (hx : VR w F M x v) (hy : VR w F M y u) {p : PV} {h : Hp} (e : app T t hp x y = some (p, h)) :
    GoodV w F M ((Builtin.append_ #[t, t] ty #[v, u]).run P w) p h := by
  unfold app at e
  cases hi : T.get t with
  | none => simp [hi] at e
  | some i =>
    simp only [hi] at e
    cases hk : Nat.beq i.kind 1 with
    | false => simp [hk] at e
    | true =>
      simp only [hk] at e
      obtain ⟨info, ud, z, hz, _⟩ := hT.get hi
      obtain rfl := hz.k1 (Nat.eq_of_beq_eq_true hk)
      cases hj : T.get i.elem with
      | none => simp [hj] at e
      | some ei =>
        simp only [hj] at e
        obtain ⟨jinfo, ju, jz, js, jzo⟩ := hT.get hj
        cases hc : (Nat.ble 1 ei.size && Nat.ble 1 ei.bytes && Nat.beq ei.zero.length ei.size) with
        | false => simp only [hc] at e; cases e
        | true =>
          simp only [hc] at e
          simp only [Bool.and_eq_true] at hc
          obtain ⟨⟨c1, c2⟩, c3⟩ := hc
          have c1 := Nat.le_of_ble_eq_true c1
          have c2 := Nat.le_of_ble_eq_true c2
          have c3 := Nat.eq_of_beq_eq_true c3
          have hzl : jz.cells.size = ei.size := by rw [← c3, js.cells]; simp
          cases hsr : srcCells hp ei.size y with
          | none => simp [hsr] at e
          | some nc =>
            obtain ⟨n, new⟩ := nc
            simp only [hsr] at e
            obtain ⟨zs, hv1, hv2, ⟨ax, cx, rfl⟩, hv3⟩ := src_sound (P := P) hs (by omega) hy hsr
            have hzn : zs.length = n * ei.size := by rw [hv1.1]; exact hv2
            have hsrc : Src P w t jinfo jz (.slice ax n cx) n zs := .of hz.und (fun k => by simp) (fun w' => by simp [Builtin.lenOf]) (fun w' hw' => by
              have := hv3 n (Nat.le_refl _) hw'
              rw [List.take_of_length_le (by omega)] at this
              rwa [js.size] at this)
            exact appTo_sound hs hz.und js.hinfo js.hzero js.size js.bytes c1 c2 hzl hx hv1 hzn hsrc e

theorem appZ_sound (hT : TOk P T) (hs : HS hp w F M) {t ut ty : TypeId} {x y : PV} {v u : Value} (hx : VR w F M x v) (hy : VR w F M y u) {p : PV} {h : Hp} (e : appZ T t ut hp x y = some (p, h)) :
    GoodV w F M ((Builtin.append_ #[t, ut] ty #[v, u]).run P w) p h := by
  unfold appZ at e
  cases hiu : T.get ut with
  | none => simp [hiu] at e
  | some ui =>
    simp only [hiu] at e
    cases hi : T.get t with
    | none => simp [hi] at e
    | some i =>
      simp only [hi] at e
      obtain ⟨uinfo, uud, uz, huz, _⟩ := hT.get hiu
      cases hk : Nat.beq i.kind 1 with
      | false => simp [hk] at e
      | true =>
        simp only [hk] at e
        obtain ⟨info, ud, z, hz, _⟩ := hT.get hi
        obtain rfl := hz.k1 (Nat.eq_of_beq_eq_true hk)
        cases hj : T.get i.elem with
        | none => simp [hj] at e
        | some ei =>
          simp only [hj] at e
          obtain ⟨jinfo, ju, jz, js, jzo⟩ := hT.get hj
          cases hc : (Nat.ble 1 ei.size && Nat.ble 1 ei.bytes && Nat.beq ei.zero.length ei.size) with
          | false => simp only [hc] at e; cases e
          | true =>
            simp only [hc] at e
            simp only [Bool.and_eq_true] at hc
            obtain ⟨⟨c1, c2⟩, c3⟩ := hc
            have c1 := Nat.le_of_ble_eq_true c1
            have c2 := Nat.le_of_ble_eq_true c2
            have c3 := Nat.eq_of_beq_eq_true c3
            have hzl : jz.cells.size = ei.size := by rw [← c3, js.cells]; simp
            cases hn : newZ ui ei y with
            | none => simp [hn] at e
            | some nc =>
              obtain ⟨n, new⟩ := nc
              simp only [hn] at e
              unfold newZ at hn
              split at hn
              · rename_i hku
                obtain rfl := huz.k6 hku
                split at hn
                · rename_i _ k' m
                  cases hl : limited m ei.bytes with
                  | false => simp [hl] at hn
                  | true =>
                    simp only [hl] at hn; cases hn
                    cases hy
                    have hb : n * ei.bytes ≤ 281474976710656 := by
                      have := Nat.le_of_ble_eq_true hl
                      have h2 : n * ei.bytes ≤ (2 * n + 1024) * ei.bytes := Nat.mul_le_mul_right _ (by omega)
                      omega
                    have hb2 : n ≤ 281474976710656 := by
                      have := Nat.le_mul_of_pos_right n c2
                      omega
                    have hmade : VL w F M (rep ei.zero n) (madeCells jz.cells (n * ei.size)).toList := by
                      rw [js.cells]; rw [js.cells] at jzo c3; exact made_VL jzo c3 c1 n
                    have hme : madeCells jz.cells (n * ei.size) = Builtin.zeroCells jz.cells n := by
                      unfold madeCells Builtin.zeroCells
                      rw [hzl]
                    rw [hme] at hmade
                    exact appTo_sound hs hz.und js.hinfo js.hzero js.size js.bytes c1 c2 hzl hx hmade (by simp [Builtin.zeroCells, hzl])
                      (.zero huz.und rfl (by rw [← js.bytes]; exact hb) hb2 js.hzero rfl) e
                · cases hn
              · rename_i hku
                obtain rfl := huz.k4 hku
                split at hn
                · rename_i _ s
                  cases hl : Nat.beq ei.size 1 with
                  | false => simp [hl] at hn
                  | true =>
                    simp only [hl] at hn; cases hn
                    cases hy
                    have h1 := Nat.eq_of_beq_eq_true hl
                    have hv : ∀ l : List UInt8, VL w F M (l.map fun b => PV.v (.int .u8 b.toNat)) (l.map fun b => Value.int .u8 b.toNat) := by
                      intro l
                      induction l with
                      | nil => exact VL.nil
                      | cons b l ih => exact VL.cons rfl (.v rfl) ih
                    have hsz : s.data.toList.length = s.size := Array.length_toList
                    exact appTo_sound hs hz.und js.hinfo js.hzero js.size js.bytes c1 c2 hzl hx (hv s.data.toList) (by simp [h1])
                      (.of huz.und (fun k => by simp) (fun w' => by simp [Builtin.lenOf]) (fun w' _ => by simp [Builtin.firstCells]; apply Array.ext'; simp)) e
                · cases hn
              · cases hn
end
end Go.Ev

/- Operations: copy. -/
namespace Go.Ev
variable [Env]
section
variable {P : Program} {T : Types} {w : World} {F : Fz} {M : Mp} {hp : Hp}

theorem copy_run {st e : TypeId} {info : TypeInfo} (hu : P.underlying st = some (.slice e)) (hi : P.info? e = some info) {g o len cap n m cx : Nat} {ax : Option Addr} {cur : Array Value} {be : TypeId}
    (hg : w.heap[g]? = some (.cells cur be (0, 0))) {zs : List Value} (hm : m = Nat.min n len) (hn : (Builtin.firstCells info.size m (.slice ax n cx)).run P w = .ok zs.toArray w) (h1 : ∀ v ∈ zs, v.oneCell' = true)
    (hfit : o + zs.length ≤ cur.size) (ty : TypeId) :
    (Builtin.copy_ #[st, st] ty #[.slice (some ⟨g, o, none⟩) len cap, .slice ax n cx]).run P w =
      .ok (goInt m) (w.setRow g (cur.toList.take o ++ zs ++ cur.toList.drop (o + zs.length)).toArray) := by
  subst hm
  have hst := run_storeCells_at P g o be zs 0 cur w hg (by simpa using hfit) h1
  simp [Builtin.copy_, run_underlying hu, Builtin.lenOf, sizeOf, typeInfo, hi, hn, hst]

theorem copy_sound (hT : TOk P T) (hs : HS hp w F M) {t ty : TypeId} {x y : PV} {v u : Value} (hx : VR w F M x v) (hy : VR w F M y u) {p : PV} {h : Hp} (e : copyTo T t hp x y = some (p, h)) :
    GoodV w F M ((Builtin.copy_ #[t, t] ty #[v, u]).run P w) p h := by
  unfold copyTo at e
  cases hi : T.get t with
  | none => simp [hi] at e
  | some i =>
    simp only [hi] at e
    cases hk : Nat.beq i.kind 1 with
    | false => simp [hk] at e
    | true =>
      simp only [hk] at e
      obtain ⟨info, ud, z, hz, _⟩ := hT.get hi
      obtain rfl := hz.k1 (Nat.eq_of_beq_eq_true hk)
      unfold sizeT at e
      cases hj : T.get i.elem with
      | none => simp [hj] at e
      | some ei =>
        simp only [hj] at e
        obtain ⟨jinfo, ju, jz, js, jzo⟩ := hT.get hj
        cases hc : Nat.ble 1 ei.size with
        | false => simp [hc] at e
        | true =>
          simp only [hc] at e
          have c1 := Nat.le_of_ble_eq_true hc
          cases hsr : srcCells hp ei.size y with
          | none => simp [hsr] at e
          | some nc =>
            obtain ⟨n, new⟩ := nc
            simp only [hsr] at e
            obtain ⟨zs, hv1, hv2, ⟨ax, cx, rfl⟩, hv3⟩ := src_sound (P := P) hs (by omega) hy hsr
            split at e
            · rename_i id off len cap rs'
              cases hg : hp.get id with
              | none => simp [hg] at e
              | some b =>
                simp only [hg] at e
                cases hb : Nat.beq b.sz ei.size with
                | false => simp [hb] at e
                | true =>
                  simp only [hb] at e
                  have hb := Nat.eq_of_beq_eq_true hb
                  cases hx with
                  | row hm h0 h1 h2 h3 =>
                    rename_i cap' pl
                    unfold copyIn at e
                    cases hf : Nat.ble b.frz off with
                    | false => simp [hf] at e
                    | true =>
                      simp only [hf] at e
                      cases hp' : putAt b.cells off (new.take (Nat.min n len * b.sz)) with
                      | none => simp [hp'] at e
                      | some cs =>
                        simp only [hp'] at e; cases e
                        have hvt : VL w F M (new.take (Nat.min n len * b.sz)) (zs.take (Nat.min n len * b.sz)) := hv1.take _
                        obtain ⟨c, e', k1, k2, k3, k4⟩ := hs.set hg hm hp' (Nat.le_of_ble_eq_true hf) hvt
                        have hfn := hv3 (Nat.min n len) (Nat.min_le_left _ _) (w' := w) rfl
                        rw [← hb] at hfn
                        have hr := copy_run (P := P) (w := w) hz.und js.hinfo (o := pl.sh + off) (len := len) (cap := cap') k1 rfl (by rw [← js.size, ← hb]; exact hfn) (oneCells hvt) k2 ty
                        exact ⟨_, _, _, hr, .v rfl, k3, k4⟩
            · cases e
end
end Go.Ev

/- Operations: maps, bytes as a text, zeros in a row, how far a slice reaches. -/
namespace Go.Ev
variable [Env]
section
variable {P : Program} {T : Types} {w : World} {F : Fz} {M : Mp} {hp : Hp}

/-! ### bytes as a text -/
theorem bytesOf_spec : ∀ {cs : List PV} {l : List UInt8} {ys : List Value}, bytesOf cs = some l → VL w F M cs ys → ∃ ns : List Int, ys = ns.map (Value.int .u8) ∧ l = ns.map fun n => UInt8.ofNat n.toNat
  | [], l, ys, h, hv => by
    cases h
    have : ys = [] := List.length_eq_zero_iff.1 hv.1
    exact ⟨[], this, rfl⟩
  | c :: cs, l, ys, h, hv => by
    cases ys with
    | nil => exact absurd hv.1 (by simp)
    | cons y ys =>
      unfold bytesOf at h
      split at h
      · rename_i heq
        exact absurd heq (by simp)
      · rename_i n r heq
        cases heq
        cases hb : bytesOf cs with
        | none => simp [hb] at h
        | some l' =>
          simp only [hb] at h; cases h
          obtain ⟨ns, h1, h2⟩ := bytesOf_spec hb hv.tail
          have h3 := hv.head.2
          cases h3
          exact ⟨Int.ofNat n :: ns, by simp [h1], by simp [h2]⟩
      · cases h

theorem conv_bytes (hT : TOk P T) (hs : HS hp w F M) {s d : TypeId} {si di : TyI} (hi : T.get s = some si) (hj : T.get d = some di) (hd : di.kind = 4) (hk : si.kind = 1) (hb : isByteT T si.elem = true) {q : PV} {v : Value} (hx : VR w F M q v) {p : PV} {h : Hp}
    (e : bytesStr hp (srcCells hp 1 q) = some (p, h)) : GoodQ w F M ((convert s d v).run P w) p hp h := by
  obtain ⟨sinfo, su, sz, hsz, _⟩ := hT.get hi
  obtain ⟨dinfo, du, dz, hdz, _⟩ := hT.get hj
  obtain rfl := hsz.k1 hk
  obtain rfl := hdz.k4 hd
  unfold isByteT at hb
  cases hel : T.get si.elem with
  | none => simp [hel] at hb
  | some ei =>
    simp only [hel] at hb
    obtain ⟨einfo, eu, ez, hez, _⟩ := hT.get hel
    cases hc : (Nat.beq ei.kind 6 && Nat.beq ei.size 1) with
    | false => simp [hc] at hb
    | true =>
      simp only [hc] at hb
      simp only [Bool.and_eq_true] at hc
      obtain rfl := hez.k6 (Nat.eq_of_beq_eq_true hc.1)
      have hu8 : ei.ik = .u8 := by
        cases hq : ei.ik <;> simp [hq] at hb <;> rfl
      unfold bytesStr at e
      split at e
      · rename_i _ n cs hsr
        cases hl : bytesOf cs with
        | none => simp [hl] at e
        | some l =>
          simp only [hl] at e; cases e
          obtain ⟨ys, h1, h2, ⟨a, c, rfl⟩, h4⟩ := src_sound (P := P) hs (by omega) hx hsr
          obtain ⟨ns, rfl, rfl⟩ := bytesOf_spec hl h1
          have h5 := h4 n (Nat.le_refl _) (w' := w) rfl
          have hle : (ns.map (Value.int .u8)).length = n := by rw [h1.1, h2]; omega
          rw [List.take_of_length_le (by omega)] at h5
          have hez' : P.underlying si.elem = some (.int .u8) := by rw [hez.und, hu8]
          refine GoodQ.of ?_ (.v rfl)
          cases a with
          | none =>
            rw [run_convert_bytes_nil w s si.elem hsz.und hez' n c d hdz.und]
            simp [Builtin.firstCells] at h5
            have : ns = [] := by
              cases ns with
              | nil => rfl
              | cons x r => simp at h5
            subst this
            rfl
          | some ad =>
            rw [run_convert_bytes_string w s d si.elem _ n c hsz.und hez' hdz.und]
            simp [Builtin.firstCells] at h5
            rw [run_bytesToString w ad n c ns (by simpa using h5), foldl_push_bytes]
            simp [ByteArray.empty, ByteArray.emptyWithCapacity]
            rfl
      · cases e

/-- a variable of a type lies at the head of a row of that type -/
theorem liesAt_head {e : TypeId} {count : Nat} (hs : P.cellsOf e ≠ 0) (hc : 1 ≤ count) : liesAt P P.depth e count 0 e 1 = true := by
  have hd : P.depth = (2 * (P.types.size + Made.depth) + 1) + 1 := rfl
  rw [hd]
  simp only [liesAt, Bool.or_eq_true]
  left
  rw [hd]
  simp [rowAt, hs, hc, sameLayout]

/-- a pointer as unsafe.Pointer, and back -/
theorem conv_ptr (hT : TOk P T) (hs : HS hp w F M) {s d : TypeId} {si di : TyI} (hi : T.get s = some si) (hj : T.get d = some di) {q : PV} {v : Value} (hx : VR w F M q v) {p : PV} {h : Hp}
    (e : convPtr T hp si di q = some (p, h)) : GoodQ w F M ((convert s d v).run P w) p hp h := by
  obtain ⟨sinfo, su, sz, hsz, _⟩ := hT.get hi
  obtain ⟨dinfo, du, dz, hdz, _⟩ := hT.get hj
  unfold convPtr at e
  split at e <;> try (cases e; done)
  rename_i id off
  cases hg : hp.get id with
  | none => simp [hg] at e
  | some b =>
    simp only [hg] at e
    cases hx with
    | ptr hm =>
      rename_i pl
      have br := hs.br id b pl hg hm
      obtain ⟨c, h1⟩ := br.ty.2
      obtain ⟨c', e', k1, k2, k3, _⟩ := br.blk
      rw [h1] at k1; cases k1
      have hsh : w.shape? pl.b = some (b.ty, c.size) := by simp [World.shape?, h1]
      cases hc : (Nat.beq si.kind 8 && Nat.beq di.kind 10) with
      | true =>
        simp only [hc] at e
        simp only [Bool.and_eq_true] at hc
        obtain rfl := hsz.k8 (Nat.eq_of_beq_eq_true hc.1)
        obtain rfl := hdz.k10 (Nat.eq_of_beq_eq_true hc.2)
        cases hel : T.get si.elem with
        | none => simp [hel] at e
        | some ti =>
          simp only [hel] at e
          obtain ⟨tinfo, tu, tz, htz, _⟩ := hT.get hel
          split at e <;> try (cases e; done)
          rename_i hlt
          cases e
          simp only [Bool.and_eq_true] at hlt
          have g1 := Nat.le_of_ble_eq_true hlt.1
          have g2 : off + 1 ≤ b.cells.length := Nat.le_of_ble_eq_true hlt.2
          refine GoodQ.of (Lib.run_to_unsafe w ⟨pl.b, pl.sh + off, none⟩ hsz.und hdz.und htz.hinfo (by rw [← htz.size]; omega) hsh ?_) (.ptr hm)
          have := br.n
          show pl.sh + off < c.size
          omega
      | false =>
        simp only [hc] at e
        split at e <;> try (cases e; done)
        rename_i hc2
        simp only [Bool.and_eq_true, Bool.not_eq_true'] at hc2
        obtain ⟨⟨⟨⟨c1, c2⟩, c3⟩, c4⟩, c5⟩ := hc2
        obtain rfl := hsz.k10 (Nat.eq_of_beq_eq_true c1)
        obtain rfl := hdz.k8 (Nat.eq_of_beq_eq_true c2)
        obtain rfl := Nat.eq_of_beq_eq_true c3
        have c4 := Nat.eq_of_beq_eq_true c4
        cases hel : T.get di.elem with
        | none => simp [hel] at e
        | some ui =>
          simp only [hel] at e
          obtain ⟨uinfo, uu, uz, huz, _⟩ := hT.get hel
          split at e <;> try (cases e; done)
          rename_i hlt
          cases e
          simp only [Bool.and_eq_true] at hlt
          have g1 := Nat.le_of_ble_eq_true hlt.1
          have g2 := Nat.le_of_ble_eq_true hlt.2
          have hsh0 : pl.sh = 0 := br.ty.1 c5
          have hcells : P.cellsOf di.elem = ui.size := by simp [Program.cellsOf, huz.hinfo, huz.size]
          refine GoodQ.of (Lib.run_from_unsafe w ⟨pl.b, pl.sh + 0, none⟩ hsz.und hdz.und huz.hinfo hsh ?_) (.ptr hm)
          rw [← c4, hsh0]
          refine liesAt_head (by rw [hcells]; omega) ?_
          rw [hcells]
          have := br.n
          exact (Nat.le_div_iff_mul_le (by omega)).2 (by omega)

theorem conv_all (hT : TOk P T) (hs : HS hp w F M) {s d : TypeId} {x : Option PV} {v : Value} (hx : ∀ q, x = some q → VR w F M q v) {p : PV} {h : Hp}
    (e : primConv T hp s d x = some (p, h)) : GoodQ w F M ((convert s d v).run P w) p hp h := by
  rcases conv_sound hT hx e with g | ⟨si, di, q, h1, h2, h3, h4, h5, h6, h7⟩ | ⟨si, di, q, h1, h2, h6, h7⟩
  · exact g
  · exact conv_bytes hT hs h1 h2 h3 h4 h5 (hx q h6) h7
  · exact conv_ptr hT hs h1 h2 (hx q h6) h7

theorem conv_int (hT : TOk P T) {s d : TypeId} {x : Option PV} {v : Value} (hx : ∀ q, x = some q → VR w F M q v) {k : IntKind} {n : Int} {h : Hp}
    (e : primConv T hp s d x = some (.v (.int k n), h)) : GoodQ w F M ((convert s d v).run P w) (.v (.int k n)) hp h := by
  rcases conv_sound hT hx e with g | ⟨si, di, q, h1, h2, h3, h4, h5, h6, h7⟩ | ⟨si, di, q, h1, h2, h6, h7⟩
  · exact g
  · unfold bytesStr at h7
    split at h7
    · split at h7 <;> cases h7
    · cases h7
  · exfalso
    unfold convPtr at h7
    repeat' (split at h7)
    all_goals (cases h7)

/-! ### how far a slice reaches -/
theorem cap_sound (hT : TOk P T) (hs : HS hp w F M) {t ty : TypeId} {x : Option PV} {v : Value} (hx : ∀ q, x = some q → VR w F M q v) {p : PV} {h : Hp}
    (e : primCap T hp t x = some (p, h)) : GoodQ w F M ((Builtin.cap_ #[t] ty #[v]).run P w) p hp h := by
  unfold primCap at e
  cases hi : T.get t with
  | none => simp [hi] at e
  | some i =>
    simp only [hi] at e
    obtain ⟨info, u, z, hz, _⟩ := hT.get hi
    cases hk : Nat.beq i.kind 1 with
    | false => simp [hk] at e
    | true =>
      simp only [hk] at e
      obtain rfl := hz.k1 (Nat.eq_of_beq_eq_true hk)
      cases x with
      | none => simp at e
      | some q =>
        simp only [] at e
        have hq := hx q rfl
        have key : ∀ {a : Option Addr} {n c : Nat}, v = .slice a n c → GoodQ w F M ((Builtin.cap_ #[t] ty #[v]).run P w) (.v (.int .i64 c)) hp hp := by
          intro a n c hv; subst hv
          refine GoodQ.of (v := goInt c) ?_ (.v rfl)
          simp [Builtin.cap_, run_underlying hz.und]
        unfold capOf at e
        split at e
        · cases hq; simp only [lenRes] at e; cases e; exact key rfl
        · rename_i es
          cases hq with
          | sl h1 h2 h3 h4 h5 =>
            simp only [lenRes] at e; cases e
            have := h1 rfl
            subst this
            exact key rfl
        · rename_i id _ _ cap _
          cases hq with
          | row hm h0 h1 h2 h3 =>
            cases hg : hp.get id with
            | none => simp [hg, lenRes] at e
            | some b =>
              simp only [hg] at e
              cases hlo : b.loose with
              | true => simp [hlo, lenRes] at e
              | false =>
                simp only [hlo, lenRes] at e; cases e
                rcases h3 with h | h
                · subst h; exact key rfl
                · have := (hs.br _ _ _ hg hm).loose
                  rw [h.1, hlo] at this; cases this
        · simp [lenRes] at e

/-! ### zeros in the place of a row's elements -/
theorem clear_sound (hT : TOk P T) (hs : HS hp w F M) {t ty : TypeId} {x : PV} {v : Value} (hx : VR w F M x v) {p : PV} {h : Hp}
    (e : primClear T hp t (some x) = some (p, h)) : GoodV w F M ((Builtin.clear_ #[t] ty #[v]).run P w) p h := by
  unfold primClear at e
  cases hi : T.get t with
  | none => simp [hi] at e
  | some i =>
    simp only [hi] at e
    obtain ⟨info, u, z, hz, _⟩ := hT.get hi
    cases hk : Nat.beq i.kind 1 with
    | false => simp [hk] at e
    | true =>
      simp only [hk] at e
      obtain rfl := hz.k1 (Nat.eq_of_beq_eq_true hk)
      cases hj : T.get i.elem with
      | none => simp [hj] at e
      | some ei =>
        simp only [hj] at e
        obtain ⟨jinfo, ju, jz, js, jzo⟩ := hT.get hj
        have nothing : ∀ {a : Option Addr} {c : Nat}, v = .slice a 0 c → GoodV w F M ((Builtin.clear_ #[t] ty #[v]).run P w) (.tup []) hp := by
          intro a c hv; subst hv
          refine GoodV.of hs (v := .tuple #[]) ?_ (.tup rfl (fun i c y h => by simp at h))
          cases a <;> simp [Builtin.clear_, run_underlying hz.und]
        unfold clearOf at e
        split at e
        · cases hx; cases e; exact nothing rfl
        · cases hx with
          | sl => cases e; exact nothing rfl
        · rename_i id off len cap rs
          cases h0 : Nat.beq len 0 with
          | true =>
            simp only [h0] at e; cases e
            have := Nat.eq_of_beq_eq_true h0
            subst this
            cases hx
            exact nothing rfl
          | false =>
            simp only [h0] at e
            have hn0 : len ≠ 0 := by intro h; subst h; simp at h0
            unfold clearIn at e
            cases hg : hp.get id with
            | none => simp [hg] at e
            | some b =>
              simp only [hg] at e
              cases hc : (Nat.beq b.sz ei.size && Nat.beq ei.zero.length ei.size && Nat.ble b.frz off) with
              | false => simp only [hc] at e; cases e
              | true =>
                simp only [hc] at e
                simp only [Bool.and_eq_true] at hc
                obtain ⟨⟨c1, c2⟩, c3⟩ := hc
                have c1 := Nat.eq_of_beq_eq_true c1
                have c2 := Nat.eq_of_beq_eq_true c2
                have c3 := Nat.le_of_ble_eq_true c3
                cases hp' : putAt b.cells off (rep ei.zero len) with
                | none => simp [hp'] at e
                | some cs =>
                  simp only [hp'] at e; cases e
                  cases hx with
                  | row hm h1 h2 h3 h4 =>
                    have hv : VL w F M (rep ei.zero len) (Builtin.zeroCells jz.cells len).toList := by
                      by_cases hs0 : ei.size = 0
                      · have : ei.zero = [] := List.length_eq_zero_iff.1 (by omega)
                        have hz0 : jz.cells = #[] := by rw [js.cells] at this; exact Array.toList_eq_nil_iff.1 this
                        refine ⟨by simp [Builtin.zeroCells, hz0, rep_length, this], fun i c y h => ?_⟩
                        have := (List.getElem?_eq_some_iff.1 h).1
                        simp [rep_length, ‹ei.zero = []›] at this
                      · have hmade : VL w F M (rep ei.zero len) (madeCells jz.cells (len * ei.size)).toList := by
                          rw [js.cells]; rw [js.cells] at jzo c2; exact made_VL jzo c2 (by omega) len
                        have hzl : jz.cells.size = ei.size := by rw [← c2, js.cells]; simp
                        have hme : madeCells jz.cells (len * ei.size) = Builtin.zeroCells jz.cells len := by
                          unfold madeCells Builtin.zeroCells
                          rw [hzl]
                        rwa [hme] at hmade
                    obtain ⟨c, e', k1, k2, k3, k4⟩ := hs.set hg hm hp' c3 hv
                    rename_i cap' pl
                    have hst := run_storeCells_at P pl.b (pl.sh + off) e' (Builtin.zeroCells jz.cells len).toList 0 c w k1 (by simpa using k2) (oneCells hv)
                    simp only [Nat.add_zero] at hst
                    refine ⟨_, _, .tuple #[], ?_, .tup rfl (fun i c y h => by simp at h), k3, k4⟩
                    obtain ⟨m, rfl⟩ := Nat.exists_eq_succ_of_ne_zero hn0
                    simp [Builtin.clear_, run_underlying hz.und, zeroValue, typeInfo, js.hinfo, js.hzero, hst]
        · cases e
end
end Go.Ev

/- Operations: maps. -/
namespace Go.Ev
variable [Env]
section
variable {P : Program} {T : Types} {w : World} {F : Fz} {M : Mp} {hp : Hp}

theorem zeroPV_sound (hT : TOk P T) {t : TypeId} {p : PV} (h : zeroPV T t = some p) (hf : zForm P t = true) : ∃ z, (zeroValue t).run P w = .ok z w ∧ VR w F M p z := by
  unfold zeroPV at h
  cases hi : T.get t with
  | none => simp [hi] at h
  | some i =>
    simp only [hi] at h
    obtain ⟨info, u, z, hz, hzo⟩ := hT.get hi
    refine ⟨z, run_zeroValue' w hz.hinfo hz.hzero, ?_⟩
    unfold zForm at hf
    simp only [hz.hinfo, hz.und, hz.hzero] at hf
    have hag := hz.agg
    cases ha : i.isAgg with
    | true =>
      simp only [ha] at h; cases h
      rw [ha] at hag
      cases z with
      | agg cs =>
        have : i.zero = cs.toList := hz.cells
        rw [this] at hzo ⊢
        have := (zero_VL (w := w) (F := F) (M := M) hzo).agg
        simpa using this
      | _ => cases u <;> simp [aggForm] at hf hag
    | false =>
      simp only [ha] at h
      rw [ha] at hag
      have hna : ∀ cs, z ≠ .agg cs := by
        intro cs e; subst e
        cases u <;> simp [aggForm] at hf hag
      have hc : z.cells = #[z] := by
        cases z <;> first | rfl | exact absurd rfl (hna _)
      have : i.zero = [z] := by rw [hz.cells, hc]
      rw [this] at h hzo
      simp only [] at h; cases h
      simp only [zeroOk, Bool.and_eq_true] at hzo
      exact .v hzo.1.1

theorem keyEq_sound (hT : TOk P T) {t : TypeId} {i : TyI} (hi : T.get t = some i) {ud : TypeDesc} (hu : P.underlying t = some ud) {a b : PV} {x y : Value} {r : Bool} (ha : VR w F M a x) (hb : VR w F M b y) (e : keyEq i.kind a b = some r) :
    Instr.sameNow ud x y = some r ∧ (∀ n c, (Instr.checkKey c (n + 1) t x).run P w = .ok () w) ∧ (r = true → ∀ n, Instr.sameBits (n + 1) y x = true) := by
  obtain ⟨info, u, z, hz, _⟩ := hT.get hi
  have : u = ud := Option.some.inj (hz.und.symm.trans hu)
  subst this
  unfold keyEq at e
  split at e
  · rename_i hk
    obtain rfl := hz.k6 hk
    split at e
    · rename_i k m k' n
      cases ha; cases hb
      split at e
      · rename_i hkk
        cases e
        have hkk : k = k' := by simpa using hkk
        subst hkk
        refine ⟨by simp [Instr.sameNow, ieqb_eq], fun n c => by simp [Instr.checkKey, run_underlying hz.und], fun hr n => ?_⟩
        rw [ieqb_eq] at hr
        simp at hr
        simp [Instr.sameBits, hr]
      · cases e
    · cases e
  · rename_i hk
    obtain rfl := hz.k7 hk
    split at e
    · cases ha; cases hb; cases e
      refine ⟨by simp [Instr.sameNow], fun n c => by simp [Instr.checkKey, run_underlying hz.und], fun hr n => ?_⟩
      simp at hr
      simp [Instr.sameBits, hr]
    · cases e
  · rename_i hk
    obtain rfl := hz.k4 hk
    split at e
    · rename_i m n
      cases ha; cases hb
      cases e
      have hx : (m == n) = bytesEq m.data.toList n.data.toList := by
        rw [bytesEq_eq, Bool.eq_iff_iff, MapKept.bytes_beq]
        constructor
        · intro h; rw [h]; exact beq_self_eq_true _
        · intro h
          have h : m.data.toList = n.data.toList := eq_of_beq h
          cases m; cases n
          congr 1
          exact Array.ext' h
      refine ⟨by simp [Instr.sameNow, hx], fun n c => by simp [Instr.checkKey, run_underlying hz.und], fun hr n => ?_⟩
      rw [← hx, MapKept.bytes_beq] at hr
      subst hr
      simp [Instr.sameBits, MapKept.bytes_beq]
    · cases e
  · cases e

theorem mapFind_sound (hT : TOk P T) {t : TypeId} {i : TyI} (hi : T.get t = some i) {ud : TypeDesc} (hu : P.underlying t = some ud) {a : PV} {x : Value} (ha : VR w F M a x) :
    ∀ (es : List (PV × PV)) (ms : List MapEntry) (n : Nat) (r : Option (Nat × PV)), ms.length = es.length →
      (∀ (j : Nat) k v, es[j]? = some (k, v) → ∃ e, ms[j]? = some e ∧ VR w F M k e.key ∧ VR w F M v e.val) → mapFind i.kind a es n = some r →
      (r = none ∧ Instr.findNow ud x ms n = some none) ∨ ∃ (m : Nat) (e : MapEntry) (p : PV), r = some (n + m, p) ∧ ms[m]? = some e ∧ VR w F M p e.val ∧ Instr.findNow ud x ms n = some (some (n + m, e.val)) ∧ ∀ q, Instr.sameBits (q + 1) e.key x = true
  | [], ms, n, r, hl, hr, h => by
    have : ms = [] := List.length_eq_zero_iff.1 hl
    subst this
    cases h
    exact .inl ⟨rfl, rfl⟩
  | (q, v) :: es, ms, n, r, hl, hr, h => by
    obtain ⟨e, h1, h2, h3⟩ := hr 0 q v rfl
    cases ms with
    | nil => simp at h1
    | cons e' ms =>
      simp at h1; subst h1
      unfold mapFind at h
      cases hk : keyEq i.kind a q with
      | none => simp [hk] at h
      | some b =>
        obtain ⟨g1, _, g3⟩ := keyEq_sound hT hi hu ha h2 hk
        cases b with
        | true =>
          simp only [hk] at h; cases h
          exact .inr ⟨0, e', v, rfl, rfl, h3, by simp [Instr.findNow, g1], g3 rfl⟩
        | false =>
          simp only [hk] at h
          rcases mapFind_sound hT hi hu ha es ms (n + 1) r (by simpa using hl) (fun j k v hj => hr (j + 1) k v (by simpa using hj)) h with ⟨k1, k2⟩ | ⟨m, e, p, k1, k2, k3, k4, k5⟩
          · exact .inl ⟨k1, by simp [Instr.findNow, g1, k2]⟩
          · exact .inr ⟨m + 1, e, p, by rw [k1]; congr 2; omega, by simpa using k2, k3, by simp only [Instr.findNow, g1, k4]; congr 3; omega, k5⟩

theorem mp_inv {id : Nat} {v : Value} (h : VR w F M (.mp id) v) : ∃ p, M id = some p ∧ v = .map (some p.b) := by
  cases h with
  | mp h => exact ⟨_, h, rfl⟩

/-- what a map holds, in the world -/
theorem entries_sound (hs : HS hp w F M) {x : PV} {v : Value} (hx : VR w F M x v) {es : List (PV × PV)} (e : mapEntries hp x = some es) :
    ∃ ms : Array MapEntry, ms.size = es.length ∧ (∀ (j : Nat) k v, es[j]? = some (k, v) → ∃ e, ms[j]? = some e ∧ VR w F M k e.key ∧ VR w F M v e.val) ∧
      ((v = .map none ∧ ms = #[]) ∨ ∃ r c, v = .map (some r) ∧ (getObj r).run P w = .ok (.map ms c) w) := by
  unfold mapEntries at e
  split at e
  · cases hx; cases e
    exact ⟨#[], rfl, fun j k v h => by simp at h, .inl ⟨rfl, rfl⟩⟩
  · rename_i id
    obtain ⟨p, hm, rfl⟩ := mp_inv hx
    split at e
    · rename_i es' hg
      cases e
      cases hs.ms.mp id _ p hg hm with
      | map h1 h2 h3 => exact ⟨_, h2, h3, .inr ⟨_, _, rfl, MapKept.run_getObj_map h1⟩⟩
    · cases e
  · cases e

theorem look_sound (hT : TOk P T) (hs : HS hp w F M) {t : TypeId} {ok : Bool} {x k : Option PV} {v u : Value} (hx : ∀ q, x = some q → VR w F M q v) (hk : ∀ q, k = some q → VR w F M q u) {p : PV} {h : Hp}
    (e : primLook T hp t ok x k = some (p, h)) : GoodQ w F M ((Instr.lookup t v u ok).run P w) p hp h := by
  unfold primLook at e
  cases hi : T.get t with
  | none => simp [hi] at e
  | some i =>
    simp only [hi] at e
    obtain ⟨info, ud, z, hz, _⟩ := hT.get hi
    cases hk9 : Nat.beq i.kind 9 with
    | false => simp [hk9] at e
    | true =>
      simp only [hk9] at e
      obtain ⟨rfl, hzf⟩ := hz.k9 (Nat.eq_of_beq_eq_true hk9)
      cases x with
      | none => simp at e
      | some px =>
        cases k with
        | none => simp at e
        | some pk =>
          simp only [] at e
          have hx := hx px rfl
          have hk := hk pk rfl
          unfold lookIn keyKind at e
          cases hj : T.get i.alen with
          | none => simp [hj] at e
          | some ki =>
            simp only [hj] at e
            cases hkk : (Nat.beq ki.kind 6 || Nat.beq ki.kind 7 || Nat.beq ki.kind 4) with
            | false => simp [hkk] at e
            | true =>
              simp only [hkk] at e
              obtain ⟨kinfo, kud, kz, hkz, _⟩ := hT.get hj
              split at e
              · rename_i hself
                obtain ⟨_, hck, _⟩ := keyEq_sound hT hj hkz.und hk hk hself
                cases hes : mapEntries hp px with
                | none => simp [hes] at e
                | some es =>
                  simp only [hes] at e
                  cases hzp : zeroPV T i.elem with
                  | none => simp [hzp] at e
                  | some zp =>
                    simp only [hzp] at e
                    cases hmf : mapFind ki.kind pk es 0 with
                    | none => simp [hmf] at e
                    | some r =>
                      simp only [hmf] at e
                      obtain ⟨zv, hzr, hzv⟩ := zeroPV_sound (w := w) (F := F) (M := M) hT hzp hzf
                      obtain ⟨ms, h1, h2, h3⟩ := entries_sound (P := P) hs hx hes
                      have hck' := hck 9999 ms.isEmpty
                      have fin : ∀ {res : Option (Nat × Value)} {pv : PV} {y : Value} {b : Bool}, (Instr.findKey i.alen u ms.toList).run P w = .ok res w → (res = none → y = zv ∧ b = false) → (∀ j q, res = some (j, q) → y = q ∧ b = true) →
                          VR w F M pv y → ((match ok with | true => some (PV.tup [pv, .v (.bool b)], hp) | false => some (pv, hp)) = some (p, h)) → GoodQ w F M ((Instr.lookup t v u ok).run P w) p hp h := by
                        intro res pv y b hf hn hsm hvr he
                        have hrun : (Instr.lookup t v u ok).run P w = .ok (if ok then .tuple #[y, .bool b] else y) w := by
                          cases res with
                          | none =>
                            obtain ⟨rfl, rfl⟩ := hn rfl
                            rcases h3 with ⟨rfl, rfl⟩ | ⟨r', c', rfl, hgo⟩
                            · simp at hck' hf
                              simp [Instr.lookup, run_underlying hz.und, hck', hf, hzr]
                            · simp [Instr.lookup, run_underlying hz.und, hgo, hck', hf, hzr]
                          | some jq =>
                            obtain ⟨rfl, rfl⟩ := hsm jq.1 jq.2 rfl
                            rcases h3 with ⟨rfl, rfl⟩ | ⟨r', c', rfl, hgo⟩
                            · simp at hck' hf
                              simp [Instr.lookup, run_underlying hz.und, hck', hf]
                            · simp [Instr.lookup, run_underlying hz.und, hgo, hck', hf]
                        cases ok with
                        | true =>
                          cases he
                          refine GoodQ.of hrun (.tup (ys := [y, .bool b]) rfl fun i c z h1 h2 => ?_)
                          match i with
                          | 0 => simp at h1 h2; subst h1; subst h2; exact hvr
                          | 1 => simp at h1 h2; subst h1; subst h2; exact .v rfl
                          | i + 2 => simp at h1
                        | false => cases he; exact GoodQ.of hrun hvr
                      rcases mapFind_sound hT hj hkz.und hk es ms.toList 0 r (by simpa using h1) (fun j k v hjk => by simpa using h2 j k v hjk) hmf with ⟨rfl, k2⟩ | ⟨m, me, mp, rfl, k2, k3, k4, k5⟩
                      · have hf := MapKept.run_findKey (P := P) (w := w) hkz.und k2
                        refine fin hf (fun _ => ⟨rfl, rfl⟩) (fun j q h => by cases h) hzv ?_
                        cases ok <;> simpa [lookRes] using e
                      · have hf := MapKept.run_findKey (P := P) (w := w) hkz.und k4
                        refine fin hf (fun h => by cases h) (fun j q h => by cases h; exact ⟨rfl, rfl⟩) k3 ?_
                        cases ok <;> simpa [lookRes] using e
              · cases e
end
end Go.Ev
