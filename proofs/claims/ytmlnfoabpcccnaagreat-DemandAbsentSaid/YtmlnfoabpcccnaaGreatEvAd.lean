/- Operations: each one, as it stands in the code, more. -/
import Derived.Test.YtmlnfoabpcccnaaGreatEvAc
import Derived.Lib.Strings
import Derived.LaidEql
set_option linter.all false
/- Operations: each one, as it stands in the code, more. -/
namespace Go.Ev
variable [Env]
section
variable {P : Program} {T : Types} {w : World} {F : Fz} {M : Mp} {hp : Hp}

theorem row_new {w' : World} {F' : Fz} {id n : Nat} {p : Pl} {c sz B : Nat} {loose : Bool} (hm : M id = some p) (hp : p = ⟨w.heap.size, 0, c, B, sz, loose⟩) (hc : n * sz = c) :
    VR w' F' M (.row id 0 n n sz) (.slice (some ⟨w.heap.size, 0, none⟩) n n) := by
  subst hp
  have := VR.row (w := w') (F := F') (M := M) (id := id) (off := 0) (len := n) (cap := n) (cap' := n) hm rfl (Nat.le_refl _) (by simp [hc]) (.inl rfl)
  simpa using this

theorem buildSlice_sound (hT : TOk P T) {tm : Tm} {a : Act} (ht : TS tm a w F M) {t : TypeId} {n : Nat} {parts : Array (Nat × Operand)} {p : PV} {h : Hp}
    (e : primBuildSlice T hp t n (partsOf parts.toList tm) = some (p, h)) : GoodA w F M ((Instr.buildSlice t n (parts.map fun (i, x) => (i, a.eval x))).run P w) p hp h := by
  unfold primBuildSlice at e
  cases hi : T.get t with
  | none => simp [hi] at e
  | some i =>
    simp only [hi] at e
    cases hk : Nat.beq i.kind 1 with
    | false => simp [hk] at e
    | true =>
      simp only [hk] at e
      cases hps : partsOf parts.toList tm with
      | none => simp [hps] at e
      | some ps =>
        simp only [hps] at e
        obtain ⟨info, u, z, hz, _⟩ := hT.get hi
        obtain rfl := hz.k1 (Nat.eq_of_beq_eq_true hk)
        obtain ⟨h1, h2⟩ := parts_sound ht hps
        unfold buildSliceOf at e
        cases hj : T.get i.elem with
        | none => simp [hj] at e
        | some j =>
          simp only [hj] at e
          obtain ⟨jinfo, ju, jz, js, jzo⟩ := hT.get hj
          cases hc : (Nat.ble (n * j.size) 16777216 && Nat.ble 1 j.size && Nat.beq j.zero.length j.size) with
          | false => simp [hc] at e
          | true =>
            simp only [hc] at e
            simp only [Bool.and_eq_true] at hc
            obtain ⟨⟨hc1, hc2⟩, hc3⟩ := hc
            have hc1 := Nat.le_of_ble_eq_true hc1
            have hc2 := Nat.le_of_ble_eq_true hc2
            have hc3 := Nat.eq_of_beq_eq_true hc3
            cases hfill : fillP (placeA j.size) (rep j.zero n) ps with
            | none => simp [hfill, rowOf] at e
            | some cs =>
              simp only [hfill, rowOf] at e; cases e
              have hmade : VL w F M (rep j.zero n) (madeCells jz.cells (n * j.size)).toList := by
                rw [js.cells]; rw [js.cells] at jzo hc3; exact made_VL jzo hc3 hc2 n
              have hpl : ((parts.map fun (x : Nat × Operand) => (x.1, a.eval x.2)).toList) = parts.toList.map fun x => (x.1, a.eval x.2) := by simp
              obtain ⟨zs, h5, h6⟩ := fill_sound (w := w) (F := F) (M := M) h1 h2 hmade hfill
              have hlen : n * j.size = cs.length := by
                have hl : ∀ {ps : List (Nat × PV)} {c c' : List PV}, fillP (placeA j.size) c ps = some c' → c'.length = c.length := by
                  intro ps
                  induction ps with
                  | nil => intro c c' h; simp [fillP] at h; subst h; rfl
                  | cons q ps ih =>
                    intro c c' h
                    obtain ⟨k, x⟩ := q
                    simp only [fillP, placeA] at h
                    cases hq : pvCells x with
                    | none => simp [hq] at h
                    | some xs =>
                      simp only [hq] at h
                      cases hb : Nat.beq xs.length j.size with
                      | false => simp [hb] at h
                      | true =>
                        simp only [hb] at h
                        cases hq2 : putAt c (k * j.size) xs with
                        | none => simp [hq2] at h
                        | some c1 =>
                          simp only [hq2] at h
                          obtain ⟨g1, g2⟩ := putAt_spec hq2
                          rw [ih h, g2]; simp; omega
                rw [hl hfill, rep_length, hc3]
              refine ⟨cs, zs, i.elem, j.size, .slice (some ⟨w.heap.size, 0, none⟩) n n, rfl, h6, ?_, fun w' F' M' h10 => row_new (w := w) h10 rfl hlen⟩
              have hsz : ¬ (n * jinfo.size > 2 ^ 24) := by rw [← js.size]; omega
              simp only [Instr.buildSlice, Sem.run_bind, run_underlying hz.und, Result.andThen_ok, run_sizeOf' w js.hinfo, hsz, if_false, Sem.run_ite, run_zeroValue' w js.hinfo js.hzero, Sem.run_pure]
              have hfe : (fun k => some (k * jinfo.size, jinfo.size)) = placeA j.size := by rw [js.size]; rfl
              rw [hfe, hpl]
              by_cases h0 : n * jinfo.size = 0
              · have hm0 : madeCells jz.cells (n * j.size) = (Array.range (n * jinfo.size)).map (fun k => (#[] : Array Value)[k % (#[] : Array Value).size]!) := by
                  rw [js.size, h0]; simp [madeCells]
                rw [hm0] at h5
                simp only [h0, if_true]
                rw [h0] at h5
                rw [h5]
                simp only [Sem.run_bind, newVar_run, Result.andThen_ok, Sem.run_pure]
              · simp only [h0, if_false]
                have hm1 : madeCells jz.cells (n * j.size) = (Array.range (n * jinfo.size)).map (fun k => jz.cells[k % jz.cells.size]!) := by rw [js.size]; rfl
                rw [hm1] at h5
                rw [h5]
                simp only [Sem.run_bind, newVar_run, Result.andThen_ok, Sem.run_pure]

theorem make_sound (hT : TOk P T) {t : TypeId} {x y : Option PV} {v u : Value} (hx : ∀ q, x = some q → VR w F M q v) (hy : ∀ q, y = some q → VR w F M q u) {p : PV} {h : Hp}
    (e : primMake T hp t x y = some (p, h)) : GoodA w F M ((Instr.makeSlice t v u).run P w) p hp h := by
  unfold primMake at e
  cases hi : T.get t with
  | none => simp [hi] at e
  | some i =>
    simp only [hi] at e
    cases hk : Nat.beq i.kind 1 with
    | false => simp [hk] at e
    | true =>
      simp only [hk] at e
      obtain ⟨info, ud, z, hz, _⟩ := hT.get hi
      obtain rfl := hz.k1 (Nat.eq_of_beq_eq_true hk)
      cases hj : T.get i.elem with
      | none => simp [hj] at e
      | some j =>
        simp only [hj] at e
        obtain ⟨jinfo, ju, jz, js, jzo⟩ := hT.get hj
        split at e
        · rename_i _ _ kl l kc c
          cases hx _ rfl
          cases hy _ rfl
          unfold makeOf at e
          cases hc : (Nat.ble l c && Nat.ble (c * j.bytes) 281474976710656 && Nat.ble 1 j.size && Nat.ble c 9223372036854775807 && Nat.beq j.zero.length j.size) with
          | false => simp only [hc] at e; cases e
          | true =>
            simp only [hc] at e; cases e
            simp only [Bool.and_eq_true] at hc
            obtain ⟨⟨⟨⟨c1, c2⟩, c3⟩, c4⟩, c5⟩ := hc
            have c1 := Nat.le_of_ble_eq_true c1
            have c2 := Nat.le_of_ble_eq_true c2
            have c3 := Nat.le_of_ble_eq_true c3
            have c4 := Nat.le_of_ble_eq_true c4
            have c5 := Nat.eq_of_beq_eq_true c5
            have hmade : VL w F M (rep j.zero c) (madeCells jz.cells (c * j.size)).toList := by
              rw [js.cells]; rw [js.cells] at jzo c5; exact made_VL jzo c5 c3 c
            have hrun := run_make (P := P) w t i.elem jinfo jz hz.und js.hinfo js.hzero kl kc (Int.ofNat l) (Int.ofNat c) (by simp) (by simpa using c1)
              (by rw [js.bytes] at c2; have : ((c * jinfo.bytes : Nat) : Int) ≤ 281474976710656 := by omega
                  rw [Int.natCast_mul, Int.mul_comm] at this; exact this) (by show (c : Int) ≤ 9223372036854775807; omega)
            refine ⟨rep j.zero c, madeCells jz.cells (c * j.size), i.elem, j.size, .slice (some ⟨w.heap.size, 0, none⟩) l c, rfl, hmade, ?_, fun w' F' M' h10 => ?_⟩
            · rw [hrun, js.size]
              rfl
            · have := VR.row (w := w') (F := F') (M := M') (id := hp.next) (off := 0) (len := l) (cap := c) (cap' := c) h10 rfl c1 (by simp [rep_length, c5]) (.inl rfl)
              simpa using this
        · cases e
end
end Go.Ev

/- Operations: addresses, parts, texts, conversions. -/
namespace Go.Ev
variable [Env]
section
variable {P : Program} {T : Types} {w : World} {F : Fz} {M : Mp} {hp : Hp}

theorem VR.addr_add {x q : PV} {v : Value} (hx : VR w F M x v) {h h' : Hp} {d : Nat} (e : addOff h d (some x) = some (q, h')) :
    h' = h ∧ ∃ b o, v = .pointer (some ⟨b, o, none⟩) ∧ VR w F M q (.pointer (some ⟨b, o + d, none⟩)) := by
  cases hx with
  | ptr hm => simp only [addOff] at e; cases e; exact ⟨rfl, _, _, rfl, by rw [Nat.add_assoc]; exact .ptr hm⟩
  | ep h4 h5 => simp only [addOff] at e; cases e; exact ⟨rfl, _, _, rfl, by rw [Nat.add_assoc]; exact .ep h4 h5⟩
  | _ => simp [addOff] at e

theorem add_spot (b o d : Nat) : (⟨b, o, none⟩ : Addr).add d = ⟨b, o + d, none⟩ := by unfold Addr.add; split <;> simp_all

theorem fieldOf_spec (hT : TOk P T) {s f off ft : Nat} (e : fieldOf T s f = some (off, ft)) : ∃ fs fd, P.underlying s = some (.struct fs) ∧ fs[f]? = some fd ∧ fd.offset = off ∧ fd.type = ft := by
  unfold fieldOf at e
  cases hi : T.get s with
  | none => simp [hi] at e
  | some i =>
    simp only [hi] at e
    cases hk : Nat.beq i.kind 3 with
    | false => simp [hk] at e
    | true =>
      simp only [hk] at e
      obtain ⟨info, u, z, hz, _⟩ := hT.get hi
      obtain ⟨fs, rfl, hf, _⟩ := hz.k3 (Nat.eq_of_beq_eq_true hk)
      rw [hf, List.getElem?_map] at e
      cases hfd : fs.toList[f]? with
      | none => simp [hfd] at e
      | some fd =>
        simp [hfd] at e
        exact ⟨fs, fd, hz.und, by simpa using hfd, e.1, e.2⟩

theorem fieldAddr_sound (hT : TOk P T) {s f : Nat} {x : Option PV} {v : Value} (hx : ∀ q, x = some q → VR w F M q v) {p : PV} {h : Hp}
    (e : primFieldAddr T hp s f x = some (p, h)) : GoodQ w F M ((Instr.fieldAt s v f).run P w) p hp h := by
  unfold primFieldAddr at e
  cases hf : fieldOf T s f with
  | none => simp [hf] at e
  | some of =>
    obtain ⟨off, ft⟩ := of
    simp only [hf] at e
    obtain ⟨fs, fd, h1, h2, rfl, rfl⟩ := fieldOf_spec hT hf
    unfold sizeT at e
    cases hj : T.get fd.type with
    | none => simp [hj] at e
    | some j =>
      obtain ⟨jinfo, ju, jz, js, _⟩ := hT.get hj
      simp only [hj] at e
      cases hb : Nat.ble 1 j.size with
      | false => simp [hb] at e
      | true =>
        simp only [hb] at e
        have hb := Nat.le_of_ble_eq_true hb
        cases x with
        | none => simp [addOff] at e
        | some q =>
          obtain ⟨rfl, b, o, rfl, hv⟩ := (hx q rfl).addr_add e
          refine GoodQ.of ?_ hv
          have hne : ¬ (jinfo.size = 0) := by rw [← js.size]; omega
          simp only [Instr.fieldAt, Sem.run_bind, run_underlying h1, Result.andThen_ok, h2, Instr.sureAddr, Sem.run_pure, fieldPlace, run_sizeOf' w js.hinfo, Sem.run_ite, hne, if_false, add_spot]

theorem field_sound (hT : TOk P T) {s f : Nat} {x : Option PV} {v : Value} (hx : ∀ q, x = some q → VR w F M q v) {p : PV} {h : Hp}
    (e : primField T hp s f x = some (p, h)) : GoodQ w F M ((Instr.field s v f).run P w) p hp h := by
  unfold primField at e
  cases hf : fieldOf T s f with
  | none => simp [hf] at e
  | some of =>
    obtain ⟨off, ft⟩ := of
    simp only [hf] at e
    obtain ⟨fs, fd, h1, h2, rfl, rfl⟩ := fieldOf_spec hT hf
    split at e
    · rename_i cs
      obtain ⟨ys, rfl, hv⟩ := agg_inv (hx _ rfl)
      obtain ⟨h3, rfl⟩ := ret1_some e
      obtain ⟨y, h4, h5⟩ := part_sound hT hv h3
      refine GoodQ.of ?_ h5
      simp only [Instr.field, Sem.run_bind, run_underlying h1, Result.andThen_ok, h2, asAgg, Sem.run_pure, h4]
    · cases e

theorem indexAddr_sound0 (hT : TOk P T) {t : TypeId} {x i : Option PV} {v u : Value} (hx : ∀ q, x = some q → VR w F M q v) (hi : ∀ q, i = some q → VR w F M q u) {p : PV} {h : Hp}
    (e : primIndexAddr0 T hp t x i = some (p, h)) : GoodQ w F M ((Instr.indexAt t v u).run P w) p hp h := by
  unfold primIndexAddr0 at e
  cases x with
  | none => simp at e
  | some q =>
    simp only [] at e
    split at e
    · rename_i _ k n
      cases hi _ rfl
      have e2 := ret1_some e
      clear e
      obtain ⟨e, rfl⟩ := e2
      have hq := hx q rfl
      unfold idxAddr at e
      cases hti : T.get t with
      | none => simp [hti] at e
      | some ti =>
        simp only [hti] at e
        obtain ⟨info, ud, z, hz, _⟩ := hT.get hti
        unfold sizeT at e
        cases hj : T.get ti.elem with
        | none => simp [hj] at e
        | some j =>
          obtain ⟨jinfo, ju, jz, js, _⟩ := hT.get hj
          simp only [hj] at e
          have h0 : (0 : Int) ≤ Int.ofNat n := by simp
          have hn : (Int.ofNat n).toNat = n := rfl
          cases hk : Nat.beq ti.kind 1 with
          | true =>
            simp only [hk] at e
            obtain rfl := hz.k1 (Nat.eq_of_beq_eq_true hk)
            unfold idxSl at e
            cases hq with
            | sl h1 h2 h3 h4 h5 =>
              rename_i es ex b o cap sz f
              simp only [] at e
              cases he : es[n]? with
              | none => simp [he] at e
              | some el =>
                simp only [he] at e
                cases hb : Nat.beq el.length j.size with
                | false => simp [hb] at e
                | true =>
                  simp only [hb] at e; cases e
                  have hb := Nat.eq_of_beq_eq_true hb
                  have hsz : sz = jinfo.size := by rw [← js.size, ← hb]; exact (h3 _ _ he).symm
                  have hlt : n < es.length := (List.getElem?_eq_some_iff.1 he).1
                  have hlt' : (Int.ofNat n) < (es.length : Int) := by simpa using hlt
                  refine GoodQ.of (v := .pointer (some ⟨b, o + n * jinfo.size, none⟩)) ?_ ?_
                  · simp only [Instr.indexAt, asIntOf, Sem.run_bind, Sem.run_pure, Result.andThen_ok, run_underlying hz.und, h0, hlt', and_self, if_true, Sem.run_ite, run_sizeOf' w js.hinfo, hn, add_spot]
                  · have := VR.ep (w := w) (F := F) (M := M) (cs := el) (off := 0) (b := b) (o := o + n * sz) (f := f n)
                      (fun jj c hc => by have := h4 n jj el c he hc; exact this) (fun jj c hc => h5 n jj el c he hc)
                    rw [hsz] at this; simpa using this
            | row hm h0' h1 h2 h3 =>
              rename_i id off len cap cap' rs pl
              simp only [] at e
              cases hb : Nat.blt n len with
              | false => simp [hb] at e
              | true =>
                simp only [hb] at e
                have hb : n < len := by simpa [Nat.blt, Nat.succ_le_iff] using hb
                cases hb2 : Nat.beq rs j.size with
                | false => simp [hb2] at e
                | true =>
                  simp only [hb2] at e; cases e
                  have hlt' : (Int.ofNat n) < (len : Int) := by simpa using hb
                  refine GoodQ.of (v := .pointer (some ⟨pl.b, pl.sh + off + n * jinfo.size, none⟩)) ?_ ?_
                  · simp only [Instr.indexAt, asIntOf, Sem.run_bind, Sem.run_pure, Result.andThen_ok, run_underlying hz.und, h0, hlt', and_self, if_true, Sem.run_ite, run_sizeOf' w js.hinfo, hn, add_spot]
                  · rw [js.size, Nat.add_assoc]; exact .ptr hm
            | _ => simp at e
          | false =>
            simp only [hk] at e
            cases hk2 : Nat.beq ti.kind 2 with
            | false => simp [hk2] at e
            | true =>
              simp only [hk2] at e
              obtain rfl := hz.k2 (Nat.eq_of_beq_eq_true hk2)
              cases hb : Nat.blt n ti.alen with
              | false => simp [hb] at e
              | true =>
                simp only [hb] at e
                have hb : n < ti.alen := by simpa [Nat.blt, Nat.succ_le_iff] using hb
                have hlt' : (Int.ofNat n) < (ti.alen : Int) := by simpa using hb
                have key : ∀ {b o : Nat}, v = .pointer (some ⟨b, o, none⟩) → VR w F M p (.pointer (some ⟨b, o + n * j.size, none⟩)) → GoodQ w F M ((Instr.indexAt t v (.int k (Int.ofNat n))).run P w) p h h := by
                  intro b o hv hvr
                  subst hv
                  refine GoodQ.of ?_ hvr
                  simp only [Instr.indexAt, asIntOf, Sem.run_bind, Sem.run_pure, Result.andThen_ok, run_underlying hz.und, Instr.sureAddr, h0, hlt', and_self, if_true, Sem.run_ite, run_sizeOf' w js.hinfo, hn, add_spot, js.size]
                cases hq with
                | ptr hm => simp only [idxArr] at e; cases e; exact key rfl (by rw [Nat.add_assoc]; exact .ptr hm)
                | ep h4 h5 => simp only [idxArr] at e; cases e; exact key rfl (by rw [Nat.add_assoc]; exact .ep h4 h5)
                | _ => simp [idxArr] at e
    · cases e

theorem index_sound0 (hT : TOk P T) {t : TypeId} {x i : Option PV} {v u : Value} (hx : ∀ q, x = some q → VR w F M q v) (hi : ∀ q, i = some q → VR w F M q u) {p : PV} {h : Hp}
    (e : primIndex0 T hp t x i = some (p, h)) : GoodQ w F M ((Instr.index t v u).run P w) p hp h := by
  unfold primIndex0 at e
  cases hti : T.get t with
  | none => simp [hti] at e
  | some ti =>
    simp only [hti] at e
    obtain ⟨info, ud, z, hz, _⟩ := hT.get hti
    split at e
    · rename_i _ k n
      cases hi _ rfl
      have h0 : (0 : Int) ≤ Int.ofNat n := by simp
      have hn : (Int.ofNat n).toNat = n := rfl
      unfold idxVal at e
      split at e
      · rename_i _ s
        cases hx _ rfl
        cases hk : Nat.beq ti.kind 4 with
        | false => simp [hk] at e
        | true =>
          simp only [hk] at e
          obtain rfl := hz.k4 (Nat.eq_of_beq_eq_true hk)
          cases hb : s.data.toList[n]? with
          | none => simp [hb, byteOf] at e
          | some b =>
            simp only [hb, byteOf] at e; cases e
            refine GoodQ.of (v := .int .u8 b.toNat) ?_ (.v rfl)
            have hsb : s[n]? = some b := by
              have h1 : n < s.data.toList.length := (List.getElem?_eq_some_iff.1 hb).1
              have h2 : n < s.size := by simpa using h1
              have h3 : s[n]? = some s[n] := by simp [h2]
              rw [h3]
              have h4 : s.data.toList[n]? = some s.data.toList[n] := List.getElem?_eq_getElem h1
              rw [h4] at hb
              cases hb
              rfl
            simp only [Instr.index, asIntOf, Sem.run_bind, Sem.run_pure, Result.andThen_ok, run_underlying hz.und, h0, if_true, hn, hsb]
      · rename_i _ cs
        obtain ⟨ys, rfl, hv⟩ := agg_inv (hx _ rfl)
        unfold idxAgg at e
        cases hk : (Nat.beq ti.kind 2 && Nat.blt n ti.alen) with
        | false => simp [hk] at e
        | true =>
          simp only [hk] at e
          simp only [Bool.and_eq_true] at hk
          obtain rfl := hz.k2 (Nat.eq_of_beq_eq_true hk.1)
          have hb : n < ti.alen := by simpa [Nat.blt, Nat.succ_le_iff] using hk.2
          have hlt' : (Int.ofNat n) < (ti.alen : Int) := by simpa using hb
          unfold sizeT at e
          cases hj : T.get ti.elem with
          | none => simp [hj] at e
          | some j =>
            obtain ⟨jinfo, ju, jz, js, _⟩ := hT.get hj
            simp only [hj] at e
            obtain ⟨h3, rfl⟩ := ret1_some e
            obtain ⟨y, h4, h5⟩ := part_sound hT hv h3
            refine GoodQ.of ?_ h5
            rw [js.size] at h4
            simp only [Instr.index, asIntOf, Sem.run_bind, Sem.run_pure, Result.andThen_ok, run_underlying hz.und, h0, hlt', and_self, if_true, Sem.run_ite, run_sizeOf' w js.hinfo, hn, h4]
      · cases e
    · cases e
theorem ask2_some {o : AskOp} {n : Nat} {i : Option PV} {p : PV} {h : Hp} (e : ask2 T hp o n i = some (p, h)) : ∃ q, i = some q ∧ T.ask o [.unk n, q] = some p ∧ h = hp := by
  cases i with
  | none => cases e
  | some q =>
    obtain ⟨e1, rfl⟩ := ret1_some e
    exact ⟨q, rfl, e1, rfl⟩
theorem indexAddr_sound (hT : TOk P T) {t : TypeId} {x i : Option PV} {v u : Value} (hx : ∀ q, x = some q → VR w F M q v) (hi : ∀ q, i = some q → VR w F M q u) {p : PV} {h : Hp}
    (e : primIndexAddr T hp t x i = some (p, h)) : GoodQ w F M ((Instr.indexAt t v u).run P w) p hp h := by
  unfold primIndexAddr at e
  split at e
  · obtain ⟨q, rfl, e1, rfl⟩ := ask2_some e
    exact hT.ask.addr _ _ _ _ e1 w F M v u _ (hx _ rfl) (hi _ rfl)
  · exact indexAddr_sound0 hT hx hi e
theorem index_sound (hT : TOk P T) {t : TypeId} {x i : Option PV} {v u : Value} (hx : ∀ q, x = some q → VR w F M q v) (hi : ∀ q, i = some q → VR w F M q u) {p : PV} {h : Hp}
    (e : primIndex T hp t x i = some (p, h)) : GoodQ w F M ((Instr.index t v u).run P w) p hp h := by
  unfold primIndex at e
  split at e
  · obtain ⟨q, rfl, e1, rfl⟩ := ask2_some e
    exact hT.ask.index _ _ _ _ e1 w F M v u _ (hx _ rfl) (hi _ rfl)
  · exact index_sound0 hT hx hi e

end
end Go.Ev

/- Operations: the small ones, and cutting. -/
namespace Go.Ev
variable [Env]
section
variable {P : Program} {T : Types} {w : World} {F : Fz} {M : Mp} {hp : Hp}

theorem extract_sound {i : Nat} {x : Option PV} {v : Value} (hx : ∀ q, x = some q → VR w F M q v) {p : PV} {h : Hp}
    (e : primExtract hp i x = some (p, h)) : GoodQ w F M ((Instr.extract v i).run P w) p hp h := by
  unfold primExtract at e
  split at e
  · rename_i _ l
    obtain ⟨h1, rfl⟩ := ret1_some e
    cases hx _ rfl with
    | tup hl hr =>
      rename_i ys
      have hlt : i < ys.length := by rw [hl]; exact (List.getElem?_eq_some_iff.1 h1).1
      refine GoodQ.of ?_ (hr i p ys[i] h1 (List.getElem?_eq_getElem hlt))
      simp [Instr.extract, hlt]
  · cases e

theorem iface_sound (hT : TOk P T) {t : TypeId} {x : Option PV} {v : Value} (hx : ∀ q, x = some q → VR w F M q v) {p : PV} {h : Hp}
    (e : primIface T hp t x = some (p, h)) : GoodQ w F M ((Instr.makeInterface t v).run P w) p hp h := by
  unfold primIface at e
  split at e
  · rename_i _ y
    cases hi : T.get t with
    | none => simp [hi] at e
    | some i =>
      simp only [hi] at e
      obtain ⟨info, u, z, hz, _⟩ := hT.get hi
      cases hk : Nat.beq i.kind 5 with
      | true => simp [hk] at e
      | false =>
        simp only [hk] at e; cases e
        have hne : i.kind ≠ 5 := by intro h'; rw [h'] at hk; cases hk
        cases hx _ rfl with
        | v hf =>
          refine GoodQ.of ?_ (.v (by simpa [flat] using hf))
          have := hz.k5 hne
          simp only [Instr.makeInterface, Sem.run_bind, run_underlying hz.und, Result.andThen_ok]
          all_goals (cases u <;> first | rfl | exact absurd rfl (this _))
  · cases e

theorem conv_sound0 (hT : TOk P T) {s d : TypeId} {x : Option PV} {v : Value} (hx : ∀ q, x = some q → VR w F M q v) {p : PV} {h : Hp}
    (e : primConv0 T hp s d x = some (p, h)) : GoodQ w F M ((convert s d v).run P w) p hp h ∨
      (∃ si di q, T.get s = some si ∧ T.get d = some di ∧ di.kind = 4 ∧ si.kind = 1 ∧ isByteT T si.elem = true ∧ x = some q ∧ bytesStr hp (srcCells hp 1 q) = some (p, h)) ∨
      ∃ si di q, T.get s = some si ∧ T.get d = some di ∧ x = some q ∧ convPtr T hp si di q = some (p, h) := by
  unfold primConv0 at e
  cases hi : T.get s with
  | none => simp [hi] at e
  | some si =>
    cases hj : T.get d with
    | none => simp [hi, hj] at e
    | some di =>
      simp only [hi, hj] at e
      obtain ⟨sinfo, su, sz, hsz, _⟩ := hT.get hi
      obtain ⟨dinfo, du, dz, hdz, _⟩ := hT.get hj
      split at e
      · rename_i _ k0 n
        cases hc : (Nat.beq si.kind 6 && Nat.beq di.kind 6) with
        | false => simp [hc] at e
        | true =>
          simp only [hc] at e
          simp only [Bool.and_eq_true] at hc
          obtain rfl := hsz.k6 (Nat.eq_of_beq_eq_true hc.1)
          obtain rfl := hdz.k6 (Nat.eq_of_beq_eq_true hc.2)
          cases e
          cases hx _ rfl
          refine .inl (GoodQ.of ?_ (.v rfl))
          simp only [convert, Sem.run_bind, run_underlying hsz.und, run_underlying hdz.und, Result.andThen_ok, Conv.intToInt, Sem.run_pure, wrapq_eq]
      · rename_i _ b
        cases hc : (Nat.beq di.kind 4 && Nat.beq si.kind 4) with
        | false => simp [hc] at e
        | true =>
          simp only [hc] at e; cases e
          simp only [Bool.and_eq_true] at hc
          obtain rfl := hdz.k4 (Nat.eq_of_beq_eq_true hc.1)
          obtain rfl := hsz.k4 (Nat.eq_of_beq_eq_true hc.2)
          cases hx _ rfl
          refine .inl (GoodQ.of ?_ (.v rfl))
          simp only [convert, Sem.run_bind, run_underlying hsz.und, run_underlying hdz.und, Result.andThen_ok, Sem.run_pure]
      · rename_i _ q _ _
        cases hc : (Nat.beq di.kind 4 && Nat.beq si.kind 1 && isByteT T si.elem) with
        | false =>
          simp only [hc] at e
          exact .inr (.inr ⟨si, di, q, rfl, rfl, rfl, e⟩)
        | true =>
          simp only [hc] at e
          simp only [Bool.and_eq_true] at hc
          exact .inr (.inl ⟨si, di, q, rfl, rfl, Nat.eq_of_beq_eq_true hc.1.1, Nat.eq_of_beq_eq_true hc.1.2, hc.2, rfl, e⟩)
      · cases e

theorem len_sound0 (hT : TOk P T) {t ty : TypeId} {x : Option PV} {v : Value} (hx : ∀ q, x = some q → VR w F M q v) {p : PV} {h : Hp}
    (e : primLen0 T hp t x = some (p, h)) : GoodQ w F M ((Builtin.len_ #[t] ty #[v]).run P w) p hp h := by
  unfold primLen0 at e
  cases hi : T.get t with
  | none => simp [hi] at e
  | some i =>
    cases x with
    | none => simp [hi] at e
    | some q =>
      simp only [hi] at e
      obtain ⟨info, u, z, hz, _⟩ := hT.get hi
      cases hk : Nat.beq i.kind 1 with
      | true =>
        simp only [hk] at e
        obtain rfl := hz.k1 (Nat.eq_of_beq_eq_true hk)
        have key : ∀ {a : Option Addr} {n c : Nat}, v = .slice a n c → GoodQ w F M ((Builtin.len_ #[t] ty #[v]).run P w) (.v (.int .i64 n)) hp hp := by
          intro a n c hv; subst hv
          refine GoodQ.of (v := goInt n) ?_ (.v rfl)
          simp [Builtin.len_, run_underlying hz.und]
        cases hx q rfl with
        | v hf =>
          unfold lenOf lenRes at e
          split at e
          · cases e
          · rename_i h1
            split at h1
            · rename_i h2; cases h2; cases h1; cases e; exact key rfl
            · rename_i h2; cases h2
            · rename_i h2; cases h2
            · cases h1
        | sl h1 h2 h3 h4 h5 => simp only [lenOf, lenRes] at e; cases e; exact key rfl
        | row h1 h0 h2 h3 h4 => simp only [lenOf, lenRes] at e; cases e; exact key rfl
        | _ => simp [lenOf, lenRes] at e
      | false =>
        simp only [hk] at e
        cases hk2 : Nat.beq i.kind 4 with
        | false => simp [hk2] at e
        | true =>
          simp only [hk2] at e
          obtain rfl := hz.k4 (Nat.eq_of_beq_eq_true hk2)
          split at e
          · rename_i s
            cases e
            cases hx _ rfl
            refine GoodQ.of (v := goInt s.data.toList.length) ?_ (.v rfl)
            have : (s.data.toList.length : Int) = (s.size : Int) := by simp
            simp [Builtin.len_, run_underlying hz.und]
          · cases e

theorem una_sound {op : UnOp} {x q : PV} {v : Value} (hx : VR w F M x v) (e : una op x = some q) : ∃ y, (Op.unary op v).run P w = .ok y w ∧ VR w F M q y := by
  unfold una at e
  split at e
  · cases hx; cases e; exact ⟨_, rfl, .v rfl⟩
  · cases hx; cases e; exact ⟨_, by simp [Op.unary, Op.intArith, wrapq_eq], .v rfl⟩
  · rename_i k n
    cases hx
    have := bitBin_sound (g := fun x y => x ^^^ y) (fun x y => by simp [BitVec.toNat_xor]) e
    subst this
    refine ⟨_, ?_, .v rfl⟩
    cases hk : k.signed <;> simp [Op.unary, Op.intBits, hk]
  · cases e

/-- '==' and '!=' of what is no number and no text -/
theorem eqNil_sound (d : Nat) (hT : TOk P T) {t : TypeId} {i : TyI} (hi : T.get t = some i) {x y : PV} {v u : Value} {r : Bool} (hx : VR w F M x v) (hy : VR w F M y u) (e : eqNil i.kind x y = some r) :
    (Op.equalIn (d + 1) t v u).run P w = .ok r w ∧ (∀ cs, v ≠ .agg cs) ∧ ¬ (v = .nilIface ∧ u = .nilIface) := by
  obtain ⟨info, ud, z, hz, _⟩ := hT.get hi
  unfold eqNil at e
  split at e
  · rename_i hk
    obtain rfl := hz.k1 hk
    have key1 : ∀ {a : Option Addr} {l c : Nat}, v = .slice a l c → u = .slice none 0 0 → r = a.isNone → (Op.equalIn (d + 1) t v u).run P w = .ok r w ∧ (∀ cs, v ≠ .agg cs) ∧ ¬ (v = .nilIface ∧ u = .nilIface) := by
      intro a l c h1 h2 h3; subst h1; subst h2; subst h3
      exact ⟨run_equalIn_slice_nil w d t _ a l c hz.und, by simp, by simp⟩
    have key2 : ∀ {a : Option Addr} {l c : Nat}, u = .slice a l c → v = .slice none 0 0 → r = a.isNone → (Op.equalIn (d + 1) t v u).run P w = .ok r w ∧ (∀ cs, v ≠ .agg cs) ∧ ¬ (v = .nilIface ∧ u = .nilIface) := by
      intro a l c h1 h2 h3; subst h1; subst h2; subst h3
      refine ⟨?_, by simp, by simp⟩
      simp [Op.equalIn, run_underlying hz.und]
    split at e
    · cases hy
      unfold isNilSlice at e
      split at e
      · cases hx; cases e; exact key1 rfl rfl rfl
      · cases hx; cases e; exact key1 rfl rfl rfl
      · cases hx; cases e; exact key1 rfl rfl rfl
      · cases e
    · split at e
      · cases hx
        unfold isNilSlice at e
        split at e
        · cases hy; cases e; exact key2 rfl rfl rfl
        · cases hy; cases e; exact key2 rfl rfl rfl
        · cases hy; cases e; exact key2 rfl rfl rfl
        · cases e
      · cases e
  · rename_i hk
    obtain rfl := hz.k8 hk
    split at e
    · cases hx; cases hy; cases e; exact ⟨by simp [Op.equalIn, run_underlying hz.und], by simp, by simp⟩
    · cases hx; cases hy; cases e; exact ⟨by simp [Op.equalIn, run_underlying hz.und], by simp, by simp⟩
    · cases hx; cases hy; cases e; exact ⟨by simp [Op.equalIn, run_underlying hz.und], by simp, by simp⟩
    · cases e
  · cases e
theorem conv_sound (hT : TOk P T) {s d : TypeId} {x : Option PV} {v : Value} (hx : ∀ q, x = some q → VR w F M q v) {p : PV} {h : Hp}
    (e : primConv T hp s d x = some (p, h)) : GoodQ w F M ((convert s d v).run P w) p hp h ∨
      (∃ si di q, T.get s = some si ∧ T.get d = some di ∧ di.kind = 4 ∧ si.kind = 1 ∧ isByteT T si.elem = true ∧ x = some q ∧ bytesStr hp (srcCells hp 1 q) = some (p, h)) ∨
      ∃ si di q, T.get s = some si ∧ T.get d = some di ∧ x = some q ∧ convPtr T hp si di q = some (p, h) := by
  unfold primConv at e
  split at e
  · obtain ⟨e1, rfl⟩ := ret1_some e
    exact .inl (hT.ask.conv _ _ _ _ e1 w F M v _ (hx _ rfl))
  · exact conv_sound0 hT hx e
theorem len_sound (hT : TOk P T) {t ty : TypeId} {x : Option PV} {v : Value} (hx : ∀ q, x = some q → VR w F M q v) {p : PV} {h : Hp}
    (e : primLen T hp t x = some (p, h)) : GoodQ w F M ((Builtin.len_ #[t] ty #[v]).run P w) p hp h := by
  unfold primLen at e
  split at e
  · obtain ⟨e1, rfl⟩ := ret1_some e
    exact hT.ask.len _ _ _ e1 w F M v ty _ (hx _ rfl)
  · exact len_sound0 hT hx e

end
end Go.Ev

/- Operations: two operands; cutting slices and texts. -/
namespace Go.Ev
variable [Env]
section
variable {P : Program} {T : Types} {w : World} {F : Fz} {M : Mp} {hp : Hp}

theorem eqGuard_ok (op : BinOp) (t : TypeId) (x y : Operand) {a b : Value} (h1 : ∀ cs, a ≠ .agg cs) (h2 : ¬ (a = .nilIface ∧ b = .nilIface)) : (eqGuard op t x y a b).run P w = .ok () w := by
  cases op <;> first
    | rfl
    | (cases a <;> first
        | (exact absurd rfl (h1 _))
        | (cases b <;> first
            | rfl
            | (exact absurd ⟨rfl, rfl⟩ h2)))

theorem run_binOp_eql (t : TypeId) (a b : Value) (ha : ∀ k n, a ≠ .int k n) (hs : ∀ s, a ≠ .string s) (hf : ∀ k n, a ≠ .float k n) (hc : ∀ k n m, a ≠ .complex k n m) :
    (binOp .eql t a b).run P w = ((Op.equal t a b).run P w).andThen fun r w' => .ok (.bool r) w' := by
  cases a <;> first
    | (exact absurd rfl (ha _ _)) | (exact absurd rfl (hs _)) | (exact absurd rfl (hf _ _)) | (exact absurd rfl (hc _ _ _))
    | (simp only [binOp, Sem.run_bind, Sem.run_pure])

theorem run_binOp_neq (t : TypeId) (a b : Value) (ha : ∀ k n, a ≠ .int k n) (hs : ∀ s, a ≠ .string s) (hf : ∀ k n, a ≠ .float k n) (hc : ∀ k n m, a ≠ .complex k n m) :
    (binOp .neq t a b).run P w = ((Op.equal t a b).run P w).andThen fun r w' => .ok (.bool !r) w' := by
  cases a <;> first
    | (exact absurd rfl (ha _ _)) | (exact absurd rfl (hs _)) | (exact absurd rfl (hf _ _)) | (exact absurd rfl (hc _ _ _))
    | (simp only [binOp, Sem.run_bind, Sem.run_pure])

theorem VR.no_float {x : PV} {v : Value} (h : VR w F M x v) : (∀ k n, v ≠ .float k n) ∧ (∀ k n m, v ≠ .complex k n m) := by
  cases h with
  | v hf => constructor <;> intros <;> intro e <;> subst e <;> simp [flat] at hf
  | sym =>
    rename_i n
    unfold Env.val
    split <;> exact ⟨by simp, by simp⟩
  | unk h =>
    rcases Env.cases_pv h with g | ⟨b, o, l, c, rfl⟩
    · constructor <;> intros <;> intro e <;> subst e <;> simp [flat] at g
    · exact ⟨by simp, by simp⟩
  | _ => exact ⟨by simp [undef], by simp [undef]⟩

theorem run_equalIn_same (d : Nat) {tp te : TypeId} {j : TypeInfo} (a : Addr) (hp : P.underlying tp = some (.pointer te)) (hte : P.info? te = some j) :
    (Op.equalIn (d + 1) tp (.pointer (some a)) (.pointer (some a))).run P w = .ok true w := by
  simp [Op.equalIn, run_underlying hp, sizeOf, typeInfo, hte, run_sameAddr_same]

theorem eqlOther_sound (hT : TOk P T) {t : TypeId} {x y : PV} {v u : Value} {r : Bool} (ox oy : Operand) (op : BinOp) (hx : VR w F M x v) (hy : VR w F M y u) (e : eqlOther T t x y = some r) :
    (Op.equal t v u).run P w = .ok r w ∧ (eqGuard op t ox oy v u).run P w = .ok () w := by
  unfold eqlOther at e
  cases hi : T.get t with
  | none => simp [hi] at e
  | some i =>
    simp only [hi] at e
    obtain ⟨info, ud, z, hz, _⟩ := hT.get hi
    cases hk : (Nat.beq i.kind 3 || Nat.beq i.kind 2 || Nat.beq i.kind 7) with
    | true =>
      simp only [hk] at e
      cases hq : i.eqok with
      | false => simp [hq] at e
      | true =>
        simp only [hq] at e
        have h1 := eqT_sound (w := w) (F := F) (M := M) hT 100 10000 (by omega) hx hy e
        refine ⟨by simp only [Op.equal, Op.maxDepth]; exact h1, ?_⟩
        -- the guard
        by_cases ha : ∃ cs ds, v = .agg cs ∧ u = .agg ds
        · obtain ⟨cs, ds, rfl, rfl⟩ := ha
          have : i.kind = 2 ∨ i.kind = 3 := by
            simp only [Bool.or_eq_true] at hk
            rcases hk with (hk | hk) | hk
            · exact .inr (Nat.eq_of_beq_eq_true hk)
            · exact .inl (Nat.eq_of_beq_eq_true hk)
            · exfalso
              have hk := Nat.eq_of_beq_eq_true hk
              unfold eqT at e
              simp only [hi, hk] at e
              split at e
              · cases hx
              · cases e
          exact run_eqGuard_agg w op t ox oy cs ds (hz.eqg this hq)
        · unfold eqT at e
          simp only [hi] at e
          split at e
          · split at e
            · cases hx; exact eqGuard_ok op t ox oy (by simp) (by simp)
            · cases e
          · split at e
            · cases hx; exact eqGuard_ok op t ox oy (by simp) (by simp)
            · cases e
          · split at e
            · cases hx; exact eqGuard_ok op t ox oy (by simp) (by simp)
            · split at e
              · rename_i hab
                simp only [Bool.and_eq_true] at hab
                cases hx
                rw [Env.val_str hab.2]
                exact eqGuard_ok op t ox oy (by simp) (by simp)
              · cases e
            · cases e
          · split at e
            · cases e
            · split at e
              · cases hx; cases hy; exact absurd ⟨_, _, rfl, rfl⟩ ha
              · cases e
          · split at e
            · cases hx; cases hy; exact absurd ⟨_, _, rfl, rfl⟩ ha
            · cases e
          · cases e
    | false =>
      simp only [hk] at e
      cases hn : eqNil i.kind x y with
      | some r' =>
        simp only [hn] at e; cases e
        obtain ⟨h1, h2, h3⟩ := eqNil_sound (P := P) 9999 hT hi hx hy hn
        exact ⟨by simp only [Op.equal, Op.maxDepth]; exact h1, eqGuard_ok op t ox oy h2 h3⟩
      | none =>
        simp only [hn] at e
        unfold eqPtr at e
        cases h8 : Nat.beq i.kind 8 with
        | false => simp [h8] at e
        | true =>
          simp only [h8] at e
          obtain rfl := hz.k8 (Nat.eq_of_beq_eq_true h8)
          cases hel : T.get i.elem with
          | none => simp [hel] at e
          | some ei =>
            simp only [hel] at e
            obtain ⟨einfo, eu, ez, hez, _⟩ := hT.get hel
            split at e
            · rename_i a o b o'
              cases hab : (Nat.beq a b && Nat.beq o o') with
              | false => simp [hab] at e
              | true =>
                simp only [hab] at e; cases e
                simp only [Bool.and_eq_true] at hab
                obtain rfl := Nat.eq_of_beq_eq_true hab.1
                obtain rfl := Nat.eq_of_beq_eq_true hab.2
                cases hx with
                | ptr hm =>
                  cases hy with
                  | ptr hm' =>
                    rw [hm] at hm'; cases hm'
                    refine ⟨?_, eqGuard_ok op t ox oy (by simp) (by simp)⟩
                    simp only [Op.equal, Op.maxDepth]
                    exact run_equalIn_same (P := P) 9999 _ hz.und hez.hinfo
            · cases e

theorem bytesLt_refl : ∀ l : List UInt8, bytesLt l l = false
  | [] => rfl
  | a :: l => by
    have h1 : Nat.blt a.toNat a.toNat = false := by
      cases hb : Nat.blt a.toNat a.toNat with
      | false => rfl
      | true =>
        unfold Nat.blt at hb
        have := Nat.le_of_ble_eq_true hb
        omega
    have h2 : Nat.beq a.toNat a.toNat = true := Nat.beq_refl _
    simp only [bytesLt, h1, h2, bytesLt_refl l]

theorem bytesEq_refl' : ∀ l : List UInt8, bytesEq l l = true
  | [] => rfl
  | a :: l => by
    have h2 : Nat.beq a.toNat a.toNat = true := Nat.beq_refl _
    simp only [bytesEq, h2, bytesEq_refl' l]

theorem symBin_some {op : BinOp} {a b : Nat} {p : PV} (e : symBin op a b = some p) (s : ByteArray) : a = b ∧ Nat.beq (a % 2) 0 = true ∧ strBin op s s = some p := by
  unfold symBin at e
  split at e
  · cases e
  · rename_i hab
    simp only [Bool.and_eq_true] at hab
    refine ⟨Nat.eq_of_beq_eq_true hab.1, hab.2, ?_⟩
    split at e
    all_goals first
      | (cases e; done)
      | (cases e; simp [strBin, bytesLt_refl, bytesEq_refl'])

theorem symInt_some {op : BinOp} {a : Nat} {k : IntKind} {m : Int} {p : PV} (e : symInt op a k m = some p) : k = .i64 ∧ a % 2 = 1 ∧ op = .rem ∧ intBin op .i64 (Env.int a) m = some p := by
  unfold symInt at e
  split at e
  · split at e
    · split at e
      · split at e
        · rename_i d _ r hr
          obtain ⟨h1, h2, h3⟩ := Env.rem _ _ _ hr
          cases e
          refine ⟨rfl, h3, rfl, ?_⟩
          have : ieqb (Int.ofNat d) 0 = false := by
            rw [ieqb_eq]
            simp
            exact h2
          simp only [intBin, this]
          rw [← h1]; rfl
        · cases e
      · cases e
    · cases e
  · cases e

theorem bin_sound (hT : TOk P T) {op : BinOp} {t : TypeId} {ox oy : Operand} {x y : Option PV} {v u : Value} (hx : ∀ q, x = some q → VR w F M q v) (hy : ∀ q, y = some q → VR w F M q u)
    {p : PV} {h : Hp} (e : primBin T hp op t x y = some (p, h)) : GoodQ w F M ((do eqGuard op t ox oy v u; binOp op t v u : Sem Value).run P w) p hp h := by
  unfold primBin at e
  cases x with
  | none => simp at e
  | some a =>
    cases y with
    | none => simp at e
    | some b =>
      simp only [] at e
      obtain ⟨e1, rfl⟩ := ret1_some e
      clear e
      have e := e1
      clear e1
      have ha := hx a rfl
      have hb := hy b rfl
      have fin : ∀ {r : Value}, (eqGuard op t ox oy v u).run P w = .ok () w → (binOp op t v u).run P w = .ok r w → VR w F M p r → GoodQ w F M ((do eqGuard op t ox oy v u; binOp op t v u : Sem Value).run P w) p h h := by
        intro r h1 h2 h3
        exact GoodQ.of (by simp only [Sem.run_bind, h1, Result.andThen_ok, h2]) h3
      have oth : otherBin T op t a b = some p → (∀ k n, v ≠ .int k n) → (∀ s, v ≠ .string s) → GoodQ w F M ((do eqGuard op t ox oy v u; binOp op t v u : Sem Value).run P w) p h h := by
        intro e hni hns
        unfold otherBin at e
        split at e
        · cases hq : eqlOther T t a b with
          | none => simp [hq, boolP] at e
          | some r =>
            simp only [hq, boolP] at e; cases e
            obtain ⟨h1, h2⟩ := eqlOther_sound hT ox oy .eql ha hb hq
            exact fin h2 (by rw [run_binOp_eql t v u hni hns ha.no_float.1 ha.no_float.2, h1]; rfl) (.v rfl)
        · cases hq : eqlOther T t a b with
          | none => simp [hq, boolP] at e
          | some r =>
            simp only [hq, boolP] at e; cases e
            obtain ⟨h1, h2⟩ := eqlOther_sound hT ox oy .neq ha hb hq
            exact fin h2 (by rw [run_binOp_neq t v u hni hns ha.no_float.1 ha.no_float.2, h1]; rfl) (.v rfl)
        · cases e
      unfold bin at e
      split at e
      · rename_i n
        cases ha
        split at e
        · rename_i m
          cases hb
          obtain ⟨hnm, hev, e2⟩ := symBin_some e (Env.str n)
          subst hnm
          rw [Env.val_str hev] at fin ⊢
          have hg : (eqGuard op t ox oy (.string (Env.str n)) (.string (Env.str n))).run P w = .ok () w := eqGuard_ok op t ox oy (by simp) (by simp)
          obtain ⟨r, rfl, hf, hr⟩ := strBin_sound (P := P) (w := w) (t := t) e2
          exact fin hg hr (.v hf)
        · rename_i k m
          cases hb
          obtain ⟨hk, hodd, hop, e2⟩ := symInt_some e
          subst hk; subst hop
          rw [Env.val_int hodd] at fin ⊢
          have hg : (eqGuard .rem t ox oy (.int .i64 (Env.int n)) (.int .i64 m)).run P w = .ok () w := eqGuard_ok .rem t ox oy (by simp) (by simp)
          obtain ⟨r, rfl, hf, hr⟩ := intBin_sound (P := P) (w := w) (t := t) ⟨by simp, by simp⟩ e2
          exact fin hg hr (.v hf)
        · cases e
      · exact hT.ask.bin _ _ _ _ _ e w F M v u ox oy _ ha hb
      · rename_i k n
        split at e
        · rename_i k' m
          cases ha
          cases hb
          have hg : (eqGuard op t ox oy (.int k n) (.int k' m)).run P w = .ok () w := eqGuard_ok op t ox oy (by simp) (by simp)
          unfold intOp at e
          split at e
          · obtain ⟨r, rfl, hf, hr⟩ := shiftq_sound (P := P) (w := w) (k' := k') (t := t) e; exact fin hg hr (.v hf)
          · obtain ⟨r, rfl, hf, hr⟩ := shiftq_sound (P := P) (w := w) (k' := k') (t := t) e; exact fin hg hr (.v hf)
          · rename_i hn1 hn2
            by_cases hkk : k = k'
            · subst hkk
              simp only [decide_true] at e
              obtain ⟨r, rfl, hf, hr⟩ := intBin_sound (P := P) (w := w) (t := t) ⟨fun h' => hn1 h', fun h' => hn2 h'⟩ e
              exact fin hg hr (.v hf)
            · simp [hkk] at e
        · exact hT.ask.bin _ _ _ _ _ e w F M v u ox oy _ ha hb
        · cases e
      · rename_i s
        split at e
        · rename_i s'
          cases ha
          cases hb
          have hg : (eqGuard op t ox oy (.string s) (.string s')).run P w = .ok () w := eqGuard_ok op t ox oy (by simp) (by simp)
          obtain ⟨r, rfl, hf, hr⟩ := strBin_sound (P := P) (w := w) (t := t) e
          exact fin hg hr (.v hf)
        · exact hT.ask.bin _ _ _ _ _ e w F M v u ox oy _ ha hb
        · cases e
      · rename_i hn0 hnu hn1 hn2
        refine oth e ?_ ?_
        · intro k n e'
          generalize hv' : v = v' at ha
          rw [e'] at hv'
          cases ha with
          | v => exact hn1 _ _ (by rw [← hv'])
          | sym => exact hn0 _ rfl
          | unk => exact hnu _ rfl
          | _ => simp [undef] at hv'
        · intro s e'
          generalize hv' : v = v' at ha
          rw [e'] at hv'
          cases ha with
          | v => exact hn2 _ (by rw [← hv'])
          | sym => exact hn0 _ rfl
          | unk => exact hnu _ rfl
          | _ => simp [undef] at hv' 

theorem VR_int {k : IntKind} {a b : Int} (h : a = b) : VR w F M (.v (.int k a)) (.int k b) := by subst h; exact .v rfl

theorem minmax_sound {mx : Bool} {l : Option (List PV)} {vs : List Value} (hl : ∀ ps, l = some ps → vs.length = ps.length ∧ ∀ (i : Nat) c y, ps[i]? = some c → vs[i]? = some y → VR w F M c y)
    {p : PV} {h : Hp} (e : primMin hp mx l = some (p, h)) (ts : Array TypeId) (ty : TypeId) :
    GoodQ w F M ((if mx = true then Builtin.max_ ts ty vs.toArray else Builtin.min_ ts ty vs.toArray : Sem Value).run P w) p hp h := by
  unfold primMin at e
  cases l with
  | none => simp at e
  | some ps =>
    simp only [] at e
    obtain ⟨e1, rfl⟩ := ret1_some e
    clear e
    have e := e1
    clear e1
    obtain ⟨h1, h2⟩ := hl ps rfl
    unfold minmax at e
    split at e
    · rename_i k a k' b
      obtain ⟨v, u, rfl⟩ : ∃ v u, vs = [v, u] := by
        match vs, h1 with
        | [v, u], _ => exact ⟨v, u, rfl⟩
      have hv := h2 0 _ _ rfl rfl
      have hu := h2 1 _ _ rfl rfl
      cases hv; cases hu
      by_cases hk : k = k'
      · subst hk
        simp only [decide_true] at e
        cases e
        cases mx with
        | true =>
          refine GoodQ.of (v := .int k (if b > a then b else a)) (by simp [Builtin.max_, Builtin.max2]) ?_
          refine VR_int ?_
          simp only [ileb_eq]
          by_cases hba : b ≤ a
          · simp [hba]; omega
          · simp [hba]
        | false =>
          refine GoodQ.of (v := .int k (if b < a then b else a)) (by simp [Builtin.min_, Builtin.min2]) ?_
          refine VR_int ?_
          simp only [ileb_eq]
          by_cases hba : a ≤ b
          · simp [hba]; omega
          · simp [hba]
      · simp [hk] at e
    · cases e
end
end Go.Ev
