/- Reading one token, and skipping a space, in every text. -/
import Derived.Test.YtmlnfoabpcccnaaGreatEvCg
import Derived.Test.YtmlnfoabpcccnaaGreatEvBj
import Derived.Test.YtmlnfoabpcccnaaGreatEvBg
import Derived.Test.YtmlnfoabpcccnaaGreatEvCa
import Derived.Test.YtmlnfoabpcccnaaGreatEvCf
set_option linter.all false
/- Reading one token, and skipping a space, in every text. -/
namespace Go.Ev.A
open Go.Proofs
/-- what stands in the cells: the text, the place -/
def st (l : List UInt8) (i : Nat) (f : UInt8) (n : Nat) : PV :=
  if 1000 ≤ n then I (i + (n - 1000)) else match n with
  | 0 => Str l
  | 2 => I l.length
  | 3 => U f.toNat
  | 6 => I (l.length - i)
  | 7 => Str ((l.drop i).take 2)
  | _ => I 0
theorem st_fit {l : List UInt8} {i : Nat} {f : UInt8} : Fit (st l i f) := by
  have : ∀ n, ∃ v, st l i f n = .v v := by
    intro n
    unfold st
    split
    · exact ⟨_, rfl⟩
    · split <;> exact ⟨_, rfl⟩
  exact ⟨fun n => .inl (this n), fun n => by obtain ⟨v, h⟩ := this n; rw [h]; rfl⟩
theorem st_pos {l : List UInt8} {i k : Nat} {f : UInt8} (h : 1000 ≤ k) : st l i f k = I (i + (k - 1000)) := if_pos h
theorem st_0 {l : List UInt8} {i : Nat} {f : UInt8} : st l i f 0 = Str l := by unfold st; rw [if_neg (by omega)]; rfl
theorem st_2 {l : List UInt8} {i : Nat} {f : UInt8} : st l i f 2 = I l.length := by unfold st; rw [if_neg (by omega)]; rfl
theorem st_3 {l : List UInt8} {i : Nat} {f : UInt8} : st l i f 3 = U f.toNat := by unfold st; rw [if_neg (by omega)]; rfl
theorem st_6 {l : List UInt8} {i : Nat} {f : UInt8} : st l i f 6 = I (l.length - i) := by unfold st; rw [if_neg (by omega)]; rfl
theorem st_7 {l : List UInt8} {i : Nat} {f : UInt8} : st l i f 7 = Str ((l.drop i).take 2) := by unfold st; rw [if_neg (by omega)]; rfl
theorem len_str (hp : Hp) (l : List UInt8) : primLen tys hp 9 (some (Str l)) = some (I l.length, hp) := rfl
theorem index_str (hp : Hp) {l : List UInt8} {i : Nat} {c : UInt8} (h : l[i]? = some c) : primIndex tys hp 9 (some (Str l)) (some (I i)) = some (U c.toNat, hp) := by
  show byteOf hp l[i]? = _
  rw [h]; rfl
theorem slice_str {l : List UInt8} {a b : Nat} (h1 : a ≤ b) (h2 : b ≤ l.length) : sliceOf tys 9 (Str l) (some (I a)) (some (I b)) none = some (Str ((l.take b).drop a)) := by
  show sliceStr ⟨⟨l⟩⟩ (some (I a)) (some (I b)) = _
  simp only [sliceStr, bound, Nat.ble_eq_true_of_le h1, Nat.ble_eq_true_of_le h2]
def smallB (x : Lx) : Bool := x.w.all (fun c => Nat.blt c 256) && Nat.ble x.w.length 16
theorem lexs_small : lexs.all smallB = true := by kernel_rfl
theorem lex_bytes {x : Lx} (h : x ∈ lexs) : (∀ c ∈ x.w, c < 256) ∧ x.w.length ≤ 16 := by
  have h := List.all_eq_true.1 lexs_small _ h
  simp only [smallB, Bool.and_eq_true] at h
  exact ⟨fun c hc => Nat.le_of_ble_eq_true (List.all_eq_true.1 h.1 c hc), Nat.le_of_ble_eq_true h.2⟩
theorem ofNat_toNat {c : Nat} (h : c < 256) : (UInt8.ofNat c).toNat = c := by simp [Nat.mod_eq_of_lt h]
section
variable {pre w rest : List UInt8}
theorem get_mid {k : Nat} (h : k < w.length) : (pre ++ (w ++ rest))[pre.length + k]? = w[k]? := by
  rw [List.getElem?_append_right (by omega), Nat.add_sub_cancel_left, List.getElem?_append_left h]
theorem get_end : (pre ++ (w ++ rest))[pre.length + w.length]? = rest[0]? := by
  rw [List.getElem?_append_right (by omega), Nat.add_sub_cancel_left, List.getElem?_append_right (by omega), Nat.sub_self]
theorem cut_mid {a b : Nat} (h : b ≤ w.length) : ((pre ++ (w ++ rest)).take (pre.length + b)).drop (pre.length + a) = (w.take b).drop a := by
  rw [List.take_append, List.take_of_length_le (by omega), Nat.add_sub_cancel_left, List.take_append_of_le_length h, List.drop_append, List.drop_of_length_le (by omega), Nat.add_sub_cancel_left, List.nil_append]
end
section
variable [E : Env]
theorem word_95 {f : UInt8} (h : wordB f = false) : f.toNat ≠ 95 ∧ lowB f.toNat = false ∧ uppB f.toNat = false ∧ digB f.toNat = false := by
  simp only [wordB, Bool.or_eq_false_iff] at h
  refine ⟨fun e => ?_, h.1, h.2.2.2, h.2.1⟩
  have := h.2.2.1
  rw [e] at this
  cases this
theorem askW_ok {x : Lx} (hx : x ∈ lexs) {pre rest : List UInt8} {e : Bool} (he : e = true → rest = []) (he' : e = false → rest ≠ []) (ha : aft x.cls (rest.headD 0) = true) (hl : (pre ++ (bts x.w ++ rest)).length ≤ 4000) :
    ∀ o l q, askW x e o l = some q → @AskEq (E.put _ (st_fit (l := pre ++ (bts x.w ++ rest)) (i := pre.length) (f := rest.headD 0)).form) tys o l q := by
  obtain ⟨hb, hw⟩ := lex_bytes hx
  have hbl : (bts x.w).length = x.w.length := List.length_map ..
  have htot : (pre ++ (bts x.w ++ rest)).length = pre.length + (x.w.length + rest.length) := by simp [hbl]
  generalize hL : pre ++ (bts x.w ++ rest) = L at *
  have hfit := st_fit (l := L) (i := pre.length) (f := rest.headD 0)
  letI := E.put _ hfit.form
  have hr : ∀ n, res (.unk n) = st L pre.length (rest.headD 0) n := fun n => rfl
  have hv : ∀ v, res (.v v) = .v v := fun v => rfl
  intro o l q h
  unfold askW at h
  split at h
  · cases h
    exact ⟨I L.length, fun hp => by rw [hr, st_0]; exact len_str hp L, Le.unk st_2⟩
  · rename_i k
    split at h
    · rename_i hc
      cases h
      simp only [Bool.and_eq_true] at hc
      have h1 := Nat.le_of_ble_eq_true hc.1
      have h2 : k - 1000 < x.w.length := Nat.le_of_ble_eq_true hc.2
      refine ⟨Bo true, ?_, Le.refl _⟩
      rw [hr, hr, st_pos h1, st_2]
      show intOp .lss .i64 .i64 (.ofNat _) (.ofNat L.length) = _
      rw [int_lss, ile_false (by omega)]; rfl
    · cases h
  · rename_i k
    split at h
    · rename_i hc
      cases h
      simp only [Bool.and_eq_true] at hc
      refine ⟨Bo false, ?_, Le.refl _⟩
      rw [hr, st_pos (Nat.le_of_ble_eq_true hc.1)]
      show intOp .lss .i64 .i64 (.ofNat _) (.ofNat 0) = _
      rw [int_lss]; rfl
    · cases h
  · rename_i k
    split at h
    · rename_i c hc1 hc2
      cases h
      have h1 := Nat.le_of_ble_eq_true hc1
      have hk : k - 1000 < x.w.length := (List.getElem?_eq_some_iff.1 hc2).1
      refine ⟨U c, fun hp => ?_, Le.refl _⟩
      rw [hr, hr, st_pos h1, st_0]
      have g : L[pre.length + (k - 1000)]? = some (UInt8.ofNat c) := by
        rw [← hL, get_mid (by omega), bts, List.getElem?_map, hc2]; rfl
      have := index_str hp g
      rw [ofNat_toNat (hb c (List.mem_of_getElem? hc2))] at this
      exact this
    · cases h
  · rename_i a b
    split at h
    · rename_i hc
      simp only [Bool.and_eq_true] at hc
      have h1 := Nat.le_of_ble_eq_true hc.1
      have h2 := Nat.le_of_ble_eq_true hc.2
      intro lo hi hlo hhi
      cases lo with
      | none => cases hlo
      | some lo => cases hi with
        | none => cases hhi
        | some hi =>
          simp only [bndPV, PV.tup.injEq, List.cons.injEq, and_true] at hlo hhi
          subst hlo; subst hhi
          simp only [Option.map_some, hr]
          unfold cutW at h
          split at h
          · rename_i ha1 hb1
            cases h
            have ha1 := Nat.le_of_ble_eq_true ha1
            have hb1 := Nat.le_of_ble_eq_true hb1
            refine ⟨_, ?_, Le.refl _⟩
            have hs := slice_str (l := L) (a := pre.length + (a - 1000)) (b := pre.length + (b - 1000)) (Nat.add_le_add_left ha1 _) (by rw [htot]; exact Nat.add_le_add_left (Nat.le_trans hb1 (Nat.le_add_right _ _)) _)
            rw [st_pos h1, st_pos h2, st_0, hs, ← hL, cut_mid (by rw [hbl]; exact hb1)]
            rw [show ((bts x.w).take (b - 1000)).drop (a - 1000) = ((x.w.take (b - 1000)).drop (a - 1000)).map UInt8.ofNat by rw [List.map_drop, List.map_take]; rfl]
          · rename_i ha1 hb1
            split at h
            · rename_i c ew ea eb
              have hne := he' rfl
              obtain ⟨f, r, rfl⟩ : ∃ f r, rest = f :: r := by
                cases rest with
                | nil => exact absurd rfl hne
                | cons f r => exact ⟨f, r, rfl⟩
              have e1 : L.take (pre.length + 2) = pre ++ [UInt8.ofNat c, f] := by
                rw [← hL, ew, List.take_append, List.take_of_length_le (by omega), Nat.add_sub_cancel_left]; rfl
              have e2 : (L.take (pre.length + 2)).drop (pre.length + 0) = [UInt8.ofNat c, f] := by
                rw [e1, Nat.add_zero, List.drop_left]
              have hsl : sliceOf tys 9 (st L pre.length f 0) (some (st L pre.length f a)) (some (st L pre.length f b)) none = some (Str [UInt8.ofNat c, f]) := by
                rw [st_pos h1, st_pos h2, st_0, ea, eb, slice_str (by omega) (by rw [htot, ew]; simp only [List.length_cons, List.length_nil]; omega), e2]
              split at h
              · rename_i hcls
                cases h
                rw [hcls] at ha
                have hf : f = 32 := UInt8.toNat_inj.1 (Nat.eq_of_beq_eq_true ha)
                subst hf
                exact ⟨_, hsl, Le.refl _⟩
              · cases h
                refine ⟨_, hsl, Le.unk ?_⟩
                show st L pre.length f 7 = _
                rw [st_7, ← hL, List.drop_left, ew]; rfl
            · cases h
          · cases h
    · cases h
  · rename_i k n
    split at h
    · rename_i hc
      cases h
      simp only [Bool.and_eq_true] at hc
      have h1 := Nat.le_of_ble_eq_true hc.1
      have h2 := Nat.le_of_ble_eq_true hc.2
      refine ⟨I (pre.length + (k - 1000) + n), ?_, Le.unk ?_⟩
      · rw [hr, st_pos h1]
        exact int_add64 _ _ (by omega)
      · show st L pre.length _ (k + n) = _
        rw [st_pos (by omega), show k + n - 1000 = k - 1000 + n by omega, Nat.add_assoc]
    · cases h
  · split at h
    · cases h
      have hre := he rfl
      subst hre
      refine ⟨I (L.length - pre.length), ?_, ?_⟩
      · rw [hr, hr, st_2, st_pos (Nat.le_refl _)]
        exact int_sub64 _ _ (by omega) (by omega)
      · have : L.length - pre.length = x.w.length := by rw [htot]; simp
        rw [this]; exact Le.refl _
    · cases h
      refine ⟨I (L.length - pre.length), ?_, Le.unk st_6⟩
      rw [hr, hr, st_2, st_pos (Nat.le_refl _)]
      exact int_sub64 _ _ (by omega) (by omega)
  · rename_i a b _
    split at h
    · rename_i hc
      cases h
      simp only [Bool.and_eq_true] at hc
      have h1 := Nat.le_of_ble_eq_true hc.1
      have h2 := Nat.le_of_ble_eq_true hc.2.1
      have h3 := Nat.le_of_ble_eq_true hc.2.2
      refine ⟨I (a - b), ?_, Le.refl _⟩
      rw [hr, hr, st_pos h1, st_pos (by omega)]
      have := int_sub64 (pre.length + (a - 1000)) (pre.length + (b - 1000)) (by omega) (by omega)
      rw [show pre.length + (a - 1000) - (pre.length + (b - 1000)) = a - b by omega] at this
      exact this
    · cases h
  · rename_i n
    split at h
    · rename_i hc
      cases h
      simp only [Bool.and_eq_true, Bool.not_eq_true'] at hc
      have h2 := Nat.le_of_ble_eq_true hc.2
      have hne := he' hc.1
      have : rest.length ≠ 0 := fun h => hne (List.length_eq_zero_iff.1 h)
      refine ⟨Bo true, ?_, Le.refl _⟩
      rw [hr, st_6]
      show intOp .geq .i64 .i64 (.ofNat _) (.ofNat n) = _
      rw [int_geq, ofNat_ble, Nat.ble_eq_true_of_le (by omega)]
    · cases h
  · rename_i s
    split at h
    · rename_i c d r hs hw2
      split at h
      · cases h
      · rename_i hcd
        cases h
        refine ⟨Bo false, ?_, Le.refl _⟩
        rw [hr, st_7]
        unfold headS at hs
        split at hs
        · rename_i sb
          split at hs
          · rename_i c' r' hsb
            cases hs
            obtain ⟨g, hg⟩ : ∃ g, (L.drop pre.length).take 2 = UInt8.ofNat d :: g := by
              rw [← hL, List.drop_left, hw2]
              exact ⟨_, rfl⟩
            rw [hg]
            show strBin .eql ⟨⟨UInt8.ofNat d :: g⟩⟩ sb = _
            unfold strBin
            simp only [hsb]
            have hd := ofNat_toNat (hb d (by rw [hw2]; exact List.mem_cons_self ..))
            unfold bytesEq
            have : Nat.beq (UInt8.ofNat d).toNat c'.toNat = false := by
              rw [hd]
              cases hq : Nat.beq d c'.toNat with
              | false => rfl
              | true => rw [Nat.eq_of_beq_eq_true hq] at hcd; simp at hcd
            rw [this]
          · cases hs
        · cases hs
    · cases h
  · split at h
    · rename_i hcls
      cases h
      refine ⟨Bo false, ?_, Le.refl _⟩
      rw [hr, st_3]
      rw [hcls] at ha
      have hf : wordB (rest.headD 0) = false := by simpa [aft] using ha
      have := (word_95 hf).1
      show intOp .eql .u8 .u8 (.ofNat _) (.ofNat 95) = _
      rw [int_eql]
      have : ieqb (.ofNat (rest.headD 0).toNat) (.ofNat 95) = false := by
        show Nat.beq _ _ = false
        cases hq : Nat.beq (rest.headD 0).toNat 95 with
        | false => rfl
        | true => exact absurd (Nat.eq_of_beq_eq_true hq) this
      rw [this]
    · cases h
  · cases h
end
end Go.Ev.A

/- Reading one token, and skipping a space, in every text: known. -/
namespace Go.Ev.A
open Go.Proofs
section
variable [E : Env]
theorem orc0 {P : Program} : OrcOk P (fun _ _ => none) := fun _ _ _ h => by cases h
theorem lf0 : FTOk Tryz.prog .lf := fun _ _ h => by cases h
theorem byte_known {c : Nat} (h : c < 256) : Known Tryz.prog 84 [U c] (Bo (lowB c)) ∧ Known Tryz.prog 85 [U c] (Bo (uppB c)) ∧ Known Tryz.prog 87 [U c] (Bo (digB c)) := by
  have h := allN_lt byteOk c h
  simp only [okByte, Bool.and_eq_true] at h
  exact ⟨known_goes (T := tys) tOk mixed lf0 orc0 e84ok h.1, known_goes (T := tys) tOk mixed lf0 orc0 e85ok h.2.1, known_goes (T := tys) tOk mixed lf0 orc0 e87ok h.2.2⟩
theorem askB_ok {l : List UInt8} {i : Nat} {f : UInt8} {b : Bool} (hb : b = true → l[i]? = some f) (hb' : b = false → l.length ≤ i) :
    ∀ o a q, askB b o a = some q → @AskEq (E.put _ (st_fit (l := l) (i := i) (f := f)).form) tys o a q := by
  have hfit := st_fit (l := l) (i := i) (f := f)
  letI := E.put _ hfit.form
  have hr : ∀ n, res (.unk n) = st l i f n := fun n => rfl
  intro o a q h
  unfold askB at h
  split at h
  · cases h
    exact ⟨I l.length, fun hp => by rw [hr, st_0]; exact len_str hp l, Le.unk st_2⟩
  · cases h
    refine ⟨Bo b, ?_, Le.refl _⟩
    rw [hr, hr, st_pos (Nat.le_refl _), st_2]
    show intOp .lss .i64 .i64 (.ofNat _) (.ofNat l.length) = _
    rw [int_lss]
    cases b with
    | true =>
      have := (List.getElem?_eq_some_iff.1 (hb rfl)).1
      rw [ile_false (by omega)]; rfl
    | false =>
      have := hb' rfl
      rw [ofNat_ble, Nat.ble_eq_true_of_le (by omega)]; rfl
  · split at h
    · cases h
      refine ⟨U f.toNat, fun hp => ?_, Le.unk st_3⟩
      rw [hr, hr, st_pos (Nat.le_refl _), st_0]
      exact index_str hp (by rw [Nat.sub_self, Nat.add_zero]; exact hb rfl)
    · cases h
  · cases h
theorem at_known (l : List UInt8) (i : Nat) (f : UInt8) (b : Bool) (hb : b = true → l[i]? = some f) (hb' : b = false → l.length ≤ i) : Known Tryz.prog 88 [Str l, I i] (match b with | true => U f.toNat | false => U 0) := by
  have hok := atOk
  simp only [Bool.and_eq_true] at hok
  have hfit := st_fit (l := l) (i := i) (f := f)
  have ha := askB_ok hb hb'
  have key : ∀ q, goesD ⟨tysT, askB b⟩ .lf (fun _ _ => none) 1000 e88 [.unk 0, .unk 1000] q = true → Known Tryz.prog 88 [Str l, I i] (Ev.sub (st l i f) q) := by
    intro q hq
    have := (Known.sub hfit (P := Tryz.prog) (f := 88) (ds := [.unk 0, .unk 1000]) (q := q)).1 (by
      letI := E.put _ hfit.form
      exact known_goes (T := ⟨tysT, askB b⟩) (TOk.asked (T := tys) tOk (AskOk.of tOk ha)) mixed lf0 orc0 e88ok hq)
    simp only [subL, Ev.sub, st_0, st_pos (Nat.le_refl 1000), Nat.sub_self, Nat.add_zero] at this
    exact this
  cases b with
  | true =>
    have := key (.unk 3) hok.2
    rw [Ev.sub, st_3] at this
    exact this
  | false =>
    have := key (U 0) hok.1
    rw [Ev.sub] at this
    exact this
theorem byteW_known {x : Lx} (hx : x ∈ lexs) {pre rest : List UInt8} (ha : aft x.cls (rest.headD 0) = true) {k : Nat} {q : PV} (h : byteW x k = some q) :
    Known Tryz.prog 88 [Str (pre ++ (bts x.w ++ rest)), I (pre.length + k)] (Ev.sub (st (pre ++ (bts x.w ++ rest)) pre.length (rest.headD 0)) q) := by
  obtain ⟨hb, hw⟩ := lex_bytes hx
  have hbl : (bts x.w).length = x.w.length := List.length_map ..
  unfold byteW at h
  split at h
  · rename_i c hc
    cases h
    have hk : k < x.w.length := (List.getElem?_eq_some_iff.1 hc).1
    have := at_known (pre ++ (bts x.w ++ rest)) (pre.length + k) (UInt8.ofNat c) true (fun _ => by rw [get_mid (by omega), bts, List.getElem?_map, hc]; rfl) (fun h => by cases h)
    rw [Ev.sub]
    simp only [ofNat_toNat (hb c (List.mem_of_getElem? hc))] at this
    exact this
  · split at h
    · cases h
    · rename_i hk
      have hk : k = x.w.length := Nat.eq_of_beq_eq_true hk
      subst hk
      have key : Known Tryz.prog 88 [Str (pre ++ (bts x.w ++ rest)), I (pre.length + x.w.length)] (U (rest.headD 0).toNat) := by
        cases rest with
        | nil =>
          exact at_known (pre ++ (bts x.w ++ [])) (pre.length + x.w.length) 0 false (fun h => by cases h) (fun _ => by simp [hbl])
        | cons f r =>
          exact at_known (pre ++ (bts x.w ++ f :: r)) (pre.length + x.w.length) f true (fun _ => by rw [← hbl, get_end]; rfl) (fun h => by cases h)
      split at h
      · rename_i hcls
        cases h
        rw [hcls] at ha
        have hf : rest.headD 0 = 32 := UInt8.toNat_inj.1 (Nat.eq_of_beq_eq_true ha)
        rw [hf] at key
        rw [Ev.sub]; exact key
      · cases h
        rw [Ev.sub, st_3]; exact key
theorem byteQ_known {f c : Nat} (h : c < 256) {q : PV} (hq : byteQ f c = some q) : Known Tryz.prog f [U c] q := by
  obtain ⟨h1, h2, h3⟩ := byte_known h
  unfold byteQ at hq
  split at hq <;> cases hq
  · exact h1
  · exact h2
  · exact h3
theorem orcW_ok {x : Lx} (hx : x ∈ lexs) {pre rest : List UInt8} (ha : aft x.cls (rest.headD 0) = true) :
    @OrcOk (E.put _ (st_fit (l := pre ++ (bts x.w ++ rest)) (i := pre.length) (f := rest.headD 0)).form) Tryz.prog (orcW x) := by
  intro f ds q h
  refine KnownX.unsub st_fit ?_
  unfold orcW at h
  split at h
  · rename_i k
    split at h
    · rename_i hk
      have hk := Nat.le_of_ble_eq_true hk
      have := byteW_known hx (pre := pre) ha h
      simp only [subL, Ev.sub, st_0, st_pos hk]
      exact this
    · cases h
  · split at h
    · rename_i hcls
      split at h
      · rename_i q' hq'
        cases h
        rw [hcls] at ha
        have hf : wordB (rest.headD 0) = false := by simpa [aft] using ha
        obtain ⟨_, w1, w2, w3⟩ := word_95 hf
        simp only [subL, Ev.sub, st_3]
        obtain ⟨h1, h2, h3⟩ := byte_known (c := (rest.headD 0).toNat) (UInt8.toNat_lt _)
        rw [w1] at h1; rw [w2] at h2; rw [w3] at h3
        unfold byteQ at hq'
        split at hq'
        · exact h1
        · exact h2
        · exact h3
        · cases hq'
      · cases h
    · cases h
  · split at h
    · rename_i hc
      have := byteQ_known (Nat.le_of_ble_eq_true hc) h
      have e : Ev.sub (st (pre ++ (bts x.w ++ rest)) pre.length (rest.headD 0)) q = q := by
        unfold byteQ at h
        split at h <;> cases h <;> rw [Ev.sub]
      simp only [subL, Ev.sub, e]
      exact this
    · cases h
  · cases h
/-- one token is read -/
theorem one_known {x : Lx} (hx : x ∈ lexs) {pre rest : List UInt8} (ha : aft x.cls (rest.headD 0) = true) (hl : (pre ++ (bts x.w ++ rest)).length ≤ 4000) :
    Known Tryz.prog 50 [Str (pre ++ (bts x.w ++ rest)), I pre.length] (.tup [.agg [I x.k, x.t, x.n, I pre.length], I (pre.length + x.w.length), I 0]) := by
  have hfit := st_fit (l := pre ++ (bts x.w ++ rest)) (i := pre.length) (f := rest.headD 0)
  obtain ⟨e, he, he', hok⟩ : ∃ e : Bool, (e = true → rest = []) ∧ (e = false → rest ≠ []) ∧ okOne e x = true := by
    cases rest with
    | nil => exact ⟨true, (fun _ => rfl), (fun h => by cases h), List.all_eq_true.1 oneOk1 x hx⟩
    | cons f r => exact ⟨false, (fun h => by cases h), (fun _ h => by cases h), List.all_eq_true.1 oneOk0 x hx⟩
  have hg : goesD ⟨tysT, askW x e⟩ fnsW (orcW x) 10000 e50 [.unk 0, .unk 1000] (resW x) = true := by
    simp only [okOne, Bool.or_eq_true, Bool.and_eq_true] at hok
    rcases hok with ⟨h1, h2⟩ | h
    · exfalso
      rw [Nat.eq_of_beq_eq_true h2, he h1] at ha
      cases ha
    · exact h
  have hA := askW_ok hx he he' ha hl
  have hO := orcW_ok hx (pre := pre) ha
  have := (Known.sub hfit (P := Tryz.prog) (f := 50) (ds := [.unk 0, .unk 1000]) (q := resW x)).1 (by
    letI := E.put _ hfit.form
    exact known_goes (T := ⟨tysT, askW x e⟩) (TOk.asked (T := tys) tOk (AskOk.of tOk hA)) mixed fnsWOk hO e50ok hg)
  have hc : clean x.t = true ∧ clean x.n = true := by
    have : lexs.all (fun x => clean x.t && clean x.n) = true := by kernel_rfl
    have := List.all_eq_true.1 this x hx
    simpa using this
  simp only [resW, subL, Ev.sub, st_0, st_pos (Nat.le_refl 1000), Nat.sub_self, Nat.add_zero, sub_clean _ _ hc.1, sub_clean _ _ hc.2, st_pos (Nat.le_add_right 1000 _), Nat.add_sub_cancel_left] at this
  exact this
theorem askK_ok {l : List UInt8} {i : Nat} {f : UInt8} {sp e : Bool} (h1 : sp = true → l[i]? = some 32) (h2 : e = false → l[i + cond sp 1 0]? = some f) (h3 : e = true → l.length = i + cond sp 1 0) (hl : l.length ≤ 4000)
    (hf : e = false → f.toNat ≠ 37 ∧ f.toNat ≠ 9 ∧ f.toNat ≠ 10 ∧ f.toNat ≠ 13 ∧ f.toNat ≠ 32) (hf0 : e = true → f = 0) :
    ∀ o a q, askK sp e o a = some q → @AskEq (E.put _ (st_fit (l := l) (i := i) (f := f)).form) tys o a q := by
  have hfit := st_fit (l := l) (i := i) (f := f)
  letI := E.put _ hfit.form
  have hr : ∀ n, res (.unk n) = st l i f n := fun n => rfl
  have hil : i + cond sp 1 0 ≤ l.length := by
    cases e with
    | true => rw [h3 rfl]; omega
    | false => have := (List.getElem?_eq_some_iff.1 (h2 rfl)).1; omega
  have p0 : st l i f 1000 = I i := by rw [st_pos (Nat.le_refl _), Nat.sub_self, Nat.add_zero]
  have p1 : st l i f 1001 = I (i + 1) := by rw [st_pos (by omega)]
  intro o a q h
  unfold askK at h
  split at h
  · cases h
    exact ⟨I l.length, fun hp => by rw [hr, st_0]; exact len_str hp l, Le.unk st_2⟩
  · cases h
    refine ⟨Bo (sp || !e), ?_, Le.refl _⟩
    rw [hr, hr, p0, st_2]
    show intOp .lss .i64 .i64 (.ofNat _) (.ofNat l.length) = _
    rw [int_lss]
    cases sp with
    | true => have := (List.getElem?_eq_some_iff.1 (h1 rfl)).1; rw [ile_false (by omega)]; rfl
    | false =>
      cases e with
      | true => have := h3 rfl; rw [ofNat_ble, Nat.ble_eq_true_of_le (by simp at this; omega)]; first | done | rfl
      | false => have := (List.getElem?_eq_some_iff.1 (h2 rfl)).1; rw [ile_false (by simp at this; omega)]; rfl
  · split at h
    · cases h
      refine ⟨Bo (!e), ?_, Le.refl _⟩
      rw [hr, hr, p1, st_2]
      show intOp .lss .i64 .i64 (.ofNat _) (.ofNat l.length) = _
      rw [int_lss]
      cases e with
      | true => have := h3 rfl; rw [ofNat_ble, Nat.ble_eq_true_of_le (by simp at this; omega)]; first | done | rfl
      | false => have g : i + 1 < l.length := (List.getElem?_eq_some_iff.1 (h2 rfl)).1; rw [ile_false g]
    · cases h
  · split at h
    · cases h
      refine ⟨U 32, fun hp => ?_, Le.refl _⟩
      rw [hr, hr, p0, st_0]
      exact index_str hp (h1 rfl)
    · split at h
      · cases h
      · cases h
        refine ⟨U f.toNat, fun hp => ?_, Le.unk st_3⟩
        rw [hr, hr, p0, st_0]
        exact index_str hp (h2 rfl)
  · split at h
    · rename_i hc
      simp only [Bool.and_eq_true, Bool.not_eq_true'] at hc
      obtain ⟨rfl, rfl⟩ := hc
      cases h
      refine ⟨U f.toNat, fun hp => ?_, Le.unk st_3⟩
      rw [hr, hr, p1, st_0]
      exact index_str hp (h2 rfl)
    · cases h
  · cases h
    refine ⟨I (i + 1), ?_, Le.unk p1⟩
    rw [hr, p0]
    exact int_add64 _ _ (by cases sp <;> simp at hil <;> omega)
  · rename_i c
    split at h
    · rename_i hc
      cases h
      refine ⟨Bo false, ?_, Le.refl _⟩
      rw [hr, st_3]
      show intOp .eql .u8 .u8 (.ofNat _) (.ofNat c) = _
      rw [int_eql]
      have : ieqb (.ofNat f.toNat) (.ofNat c) = false := by
        show Nat.beq _ _ = false
        cases hq : Nat.beq f.toNat c with
        | false => rfl
        | true =>
          exfalso
          have hq := Nat.eq_of_beq_eq_true hq
          have hcc : c = 37 ∨ c = 9 ∨ c = 10 ∨ c = 13 ∨ c = 32 := by
            simp only [Bool.or_eq_true] at hc
            rcases hc with h | h | h | h | h <;> have := Nat.eq_of_beq_eq_true h <;> omega
          cases e with
          | true => rw [hf0 rfl] at hq; simp at hq; omega
          | false => have := hf rfl; omega
      rw [this]
    · cases h
  · cases h
theorem skip_known {pre sp rest : List UInt8} (hsp : sp = [] ∨ sp = [32]) (hr : ∀ f r, rest = f :: r → f.toNat ≠ 37 ∧ f.toNat ≠ 9 ∧ f.toNat ≠ 10 ∧ f.toNat ≠ 13 ∧ f.toNat ≠ 32) (hl : (pre ++ (sp ++ rest)).length ≤ 4000) :
    Known Tryz.prog 49 [Str (pre ++ (sp ++ rest)), I pre.length] (I (pre.length + sp.length)) := by
  have hfit := st_fit (l := pre ++ (sp ++ rest)) (i := pre.length) (f := rest.headD 0)
  obtain ⟨b, hb1, hb2⟩ : ∃ b : Bool, (b = true ↔ sp = [32]) ∧ cond b 1 0 = sp.length := by
    rcases hsp with rfl | rfl
    · exact ⟨false, by simp, rfl⟩
    · exact ⟨true, by simp, rfl⟩
  obtain ⟨e, he, he'⟩ : ∃ e : Bool, (e = true → rest = []) ∧ (e = false → rest ≠ []) := by
    cases rest with
    | nil => exact ⟨true, (fun _ => rfl), (fun h => by cases h)⟩
    | cons f r => exact ⟨false, (fun h => by cases h), (fun _ h => by cases h)⟩
  have hok : okSkip b e = true := by
    have := skipOk
    simp only [Bool.and_eq_true] at this
    cases b <;> cases e
    · exact this.1
    · exact this.2.1
    · exact this.2.2.1
    · exact this.2.2.2
  have hA := askK_ok (l := pre ++ (sp ++ rest)) (i := pre.length) (f := rest.headD 0) (sp := b) (e := e) (fun h => by
      rw [hb1.1 h]
      have := get_mid (pre := pre) (w := [32]) (rest := rest) (k := 0) (by simp)
      exact this) (fun h => by
      rw [hb2, get_end]
      cases rest with
      | nil => exact absurd rfl (he' h)
      | cons f r => rfl) (fun h => by rw [he h, hb2]; simp) hl (fun h => by
      cases rest with
      | nil => exact absurd rfl (he' h)
      | cons f r => exact hr f r rfl) (fun h => by rw [he h]; rfl)
  have := (Known.sub hfit (P := Tryz.prog) (f := 49) (ds := [.unk 0, .unk 1000]) (q := resK b)).1 (by
    letI := E.put _ hfit.form
    exact known_goes (T := ⟨tysT, askK b e⟩) (TOk.asked (T := tys) tOk (AskOk.of tOk hA)) mixed lf0 orc0 e49ok hok)
  simp only [subL, Ev.sub, st_0, st_pos (Nat.le_refl 1000), Nat.sub_self, Nat.add_zero] at this
  rw [← hb2]
  cases b with
  | true => simp only [resK, Ev.sub, st_pos (show 1000 ≤ 1001 by omega)] at this; exact this
  | false => simp only [resK, Ev.sub, st_pos (Nat.le_refl 1000), Nat.sub_self] at this; exact this
end
end Go.Ev.A

/- What the regions come to. -/
namespace Go.Ev
open Go.Proofs
section
variable {R : Type}
/-! function 14 -/
noncomputable def c14 : Code := codeOf Tryz.f14
noncomputable def r14_0 : Code := regAt 0 c14
noncomputable def r14_1 : Code := regAt 1 c14
noncomputable def r14_2 : Code := regAt 2 c14
noncomputable def r14_3 : Code := regAt 3 c14
noncomputable def r14_4 : Code := regAt 4 c14
noncomputable def r14_5 : Code := regAt 5 c14
noncomputable def r14_6 : Code := regAt 6 c14
noncomputable def r14_7 : Code := regAt 7 c14
theorem c14_eq : c14 = (.seq r14_0 (.seq (.seq r14_1 (.cond (.tmp 19) (.seq r14_2 .ret) .skip)) (.seq r14_3 (.seq r14_4 (.seq (.seq r14_5 (.cond (.tmp 41) r14_6 .skip)) (.seq r14_7 .ret)))))) := by kernel_rfl
theorem b14 (rc : RC R) (x0 x1 : PV) (hp : Hp) (k : PV → Hp → Option R) : bodyF tys e14 rc [x0, x1] hp k = rc e14 c14 ⟨[(0, x0), (1, x1)], hp⟩ (endK tys e14.fn k) := by kernel_rfl
theorem z14a (x4 : PV) (hp : Hp) : resOf tys e14.fn ⟨[(4, x4)], hp⟩ = oneR (consO (some x4) (some [])) := by kernel_rfl
theorem r14_0a (call : CallK R) (rc : RC R) (x0 x1 : PV) (hp : Hp) (k : Ex → St → Option R) : evC tys e14 r14_0 call rc ⟨[(0, x0), (1, x1)], hp⟩ k =
  k .normal ⟨[(0, x0), (1, x1)], hp⟩ := by kernel_rfl
theorem r14_1a (call : CallK R) (rc : RC R) (x0 x1 : PV) (hp : Hp) (k : Ex → St → Option R) : evC tys e14 r14_1 call rc ⟨[(0, x0), (1, x1)], hp⟩ k =
  bP (primBin tys hp .lss 3 (some x1) (some (i 1))) fun y1 g1 =>
  bWD (wantOf false (some y1)) g1 (fun K => K x0 g1) fun b3 y3 g3 =>
  bLg (ranL b3 ⟨[], [], []⟩ (some ⟨[], [], []⟩)) fun l3 =>
  bWD (wantOf false (some y1)) g3 (fun K => bP (primNil g3 (some y3)) K) fun b4 y4 g4 =>
  bLg (ranL b4 l3 (some l3)) fun l4 =>
  bWD (wantOf false (some y1)) g4 (fun K => bP (primFieldAddr tys g4 67 1 (some y4)) K) fun b5 y5 g5 =>
  bLg (ranL b5 l4 (some l4)) fun l5 =>
  bWD (wantOf false (some y1)) g5 (fun K => bP (primLoad tys g5 3 (some y5)) K) fun b6 y6 g6 =>
  bLg (ranL b6 l5 (logLoad tys 6 63 l5 g5.next y6 (some (3, y5)))) fun l6 =>
  bWD (wantOf false (some y1)) g6 (fun K => K x0 g6) fun b7 y7 g7 =>
  bLg (ranL b7 l6 (some l6)) fun l7 =>
  bWD (wantOf false (some y1)) g7 (fun K => bP (primNil g7 (some y7)) K) fun b8 y8 g8 =>
  bLg (ranL b8 l7 (some l7)) fun l8 =>
  bWD (wantOf false (some y1)) g8 (fun K => bP (primFieldAddr tys g8 67 0 (some y8)) K) fun b9 y9 g9 =>
  bLg (ranL b9 l8 (some l8)) fun l9 =>
  bWD (wantOf false (some y1)) g9 (fun K => bP (primLoad tys g9 22 (some y9)) K) fun b10 y10 g10 =>
  bLg (ranL b10 l9 (logLoad tys 10 903 l9 g9.next y10 (some (22, y9)))) fun l10 =>
  bWD (wantOf false (some y1)) g10 (fun K => bP (primLen tys g10 22 (some y10)) K) fun b11 y11 g11 =>
  bLg (ranL b11 l10 (some l10)) fun l11 =>
  bWD (wantOf false (some y1)) g11 (fun K => bP (primBin tys g11 .geq 3 (some y6) (some y11)) K) fun b12 y12 g12 =>
  bLg (ranL b12 l11 (some l11)) fun l12 =>
  bP (primPick g12 (some (.v (.bool true))) (some y12) (some y1)) fun y13 g13 =>
  k .normal ⟨[(0, x0), (1, x1), (19, y13)], g13⟩ := by kernel_rfl
theorem r14_2a (call : CallK R) (rc : RC R) (x0 x1 x19 : PV) (hp : Hp) (k : Ex → St → Option R) : evC tys e14 r14_2 call rc ⟨[(0, x0), (1, x1), (19, x19)], hp⟩ k =
  k .normal ⟨[(4, (i 0))], hp⟩ := by kernel_rfl
theorem r14_3a (call : CallK R) (rc : RC R) (x0 x1 x19 : PV) (hp : Hp) (k : Ex → St → Option R) : evC tys e14 r14_3 call rc ⟨[(0, x0), (1, x1), (19, x19)], hp⟩ k =
  bP (primNil hp (some x0)) fun y1 g1 =>
  bP (primFieldAddr tys g1 67 0 (some y1)) fun y2 g2 =>
  bP (primLoad tys g2 22 (some y2)) fun y3 g3 =>
  bLg (logLoad tys 3 7 ⟨[], [], []⟩ g2.next y3 (some (22, y2))) fun l3 =>
  bP (primNil g3 (some x0)) fun y5 g5 =>
  bP (primFieldAddr tys g5 67 1 (some y5)) fun y6 g6 =>
  bP (primLoad tys g6 3 (some y6)) fun y7 g7 =>
  bLg (logLoad tys 7 112 l3 g6.next y7 (some (3, y6))) fun l7 =>
  bP (primIndexAddr tys g7 22 (some y3) (some y7)) fun y8 g8 =>
  bP (primLoad tys g8 3 (some y8)) fun y9 g9 =>
  bLg (logLoad tys 9 511 l7 g8.next y9 (some (3, y8))) fun l9 =>
  bP (primBin tys g9 .rem 3 (some y9) (some x1)) fun y11 g11 =>
  k .normal ⟨[(0, x0), (1, x1), (5, y11)], g11⟩ := by kernel_rfl
theorem r14_4a (call : CallK R) (rc : RC R) (x0 x1 x5 : PV) (hp : Hp) (k : Ex → St → Option R) : evC tys e14 r14_4 call rc ⟨[(0, x0), (1, x1), (5, x5)], hp⟩ k =
  bP (primNil hp (some x0)) fun y2 g2 =>
  bP (primFieldAddr tys g2 67 1 (some y2)) fun y3 g3 =>
  bP (primLoad tys g3 3 (some y3)) fun y4 g4 =>
  bP (primBin tys g4 .add 3 (some y4) (some (i 1))) fun y5 g5 =>
  bP (primNil g5 (some x0)) fun y6 g6 =>
  bP (primFieldAddr tys g6 67 1 (some y6)) fun y7 g7 =>
  bP (primStore tys g7 3 (some y7) (some y5)) fun y8 g8 =>
  k .normal ⟨[(1, x1), (5, x5)], g8⟩ := by kernel_rfl
theorem r14_5a (call : CallK R) (rc : RC R) (x1 x5 : PV) (hp : Hp) (k : Ex → St → Option R) : evC tys e14 r14_5 call rc ⟨[(1, x1), (5, x5)], hp⟩ k =
  bP (primBin tys hp .lss 3 (some x5) (some (i 0))) fun y1 g1 =>
  k .normal ⟨[(1, x1), (5, x5), (41, y1)], g1⟩ := by kernel_rfl
theorem r14_6a (call : CallK R) (rc : RC R) (x1 x5 x41 : PV) (hp : Hp) (k : Ex → St → Option R) : evC tys e14 r14_6 call rc ⟨[(1, x1), (5, x5), (41, x41)], hp⟩ k =
  bP (primBin tys hp .add 3 (some x5) (some x1)) fun y2 g2 =>
  k .normal ⟨[(5, y2)], g2⟩ := by kernel_rfl
theorem r14_7a (call : CallK R) (rc : RC R) (x5 : PV) (hp : Hp) (k : Ex → St → Option R) : evC tys e14 r14_7 call rc ⟨[(5, x5)], hp⟩ k =
  k .normal ⟨[(4, x5)], hp⟩ := by kernel_rfl
theorem r14_7b (call : CallK R) (rc : RC R) (x1 x5 x41 : PV) (hp : Hp) (k : Ex → St → Option R) : evC tys e14 r14_7 call rc ⟨[(1, x1), (5, x5), (41, x41)], hp⟩ k =
  k .normal ⟨[(4, x5)], hp⟩ := by kernel_rfl
/-! function 25 -/
noncomputable def c25 : Code := codeOf Tryz.f25
noncomputable def r25_0 : Code := regAt 0 c25
noncomputable def r25_1 : Code := regAt 1 c25
noncomputable def r25_2 : Code := regAt 2 c25
noncomputable def r25_3 : Code := regAt 3 c25
noncomputable def r25_4 : Code := regAt 4 c25
noncomputable def r25_5 : Code := regAt 5 c25
noncomputable def r25_7 : Code := regAt 7 c25
noncomputable def r25_8 : Code := regAt 8 c25
noncomputable def r25_9 : Code := regAt 9 c25
noncomputable def r25_10 : Code := regAt 10 c25
noncomputable def r25_11 : Code := regAt 11 c25
noncomputable def r25_6 : Code := regAt 6 c25
noncomputable def r25_12 : Code := regAt 12 c25
noncomputable def l25_0 : Code := .loop (.seq (.seq r25_5 (.cond (.tmp 18) .skip (.exit 0))) (.seq (.block 1 (.seq r25_7 (.seq (.seq r25_8 (.cond (.tmp 30) (.seq r25_9 .ret) .skip)) (.seq r25_10 r25_11)))) r25_6))
theorem l25_0_eq : l25_0 = .loop (.seq (.seq r25_5 (.cond (.tmp 18) .skip (.exit 0))) (.seq (.block 1 (.seq r25_7 (.seq (.seq r25_8 (.cond (.tmp 30) (.seq r25_9 .ret) .skip)) (.seq r25_10 r25_11)))) r25_6)) := _root_.id rfl
theorem c25_eq : c25 = (.seq r25_0 (.seq (.seq r25_1 (.cond (.tmp 12) (.seq r25_2 .ret) .skip)) (.seq r25_3 (.seq (.seq r25_4 (.block 0 l25_0)) (.seq r25_12 .ret))))) := by kernel_rfl
theorem b25 (rc : RC R) (x0 : PV) (hp : Hp) (k : PV → Hp → Option R) : bodyF tys e25 rc [x0] hp k = rc e25 c25 ⟨[(0, x0)], hp⟩ (endK tys e25.fn k) := by kernel_rfl
theorem z25a (x2 x3 x4 : PV) (hp : Hp) : resOf tys e25.fn ⟨[(2, x2), (3, x3), (4, x4)], hp⟩ = oneR (consO (some x2) (consO (some x3) (consO (some x4) (some [])))) := by kernel_rfl
theorem r25_0a (call : CallK R) (rc : RC R) (x0 : PV) (hp : Hp) (k : Ex → St → Option R) : evC tys e25 r25_0 call rc ⟨[(0, x0)], hp⟩ k =
  k .normal ⟨[(0, x0)], hp⟩ := by kernel_rfl
theorem r25_1a (call : CallK R) (rc : RC R) (x0 : PV) (hp : Hp) (k : Ex → St → Option R) : evC tys e25 r25_1 call rc ⟨[(0, x0)], hp⟩ k =
  bP (primLen tys hp 9 (some x0)) fun y1 g1 =>
  bP (primBin tys g1 .gtr 3 (some y1) (some (i 4000))) fun y2 g2 =>
  k .normal ⟨[(0, x0), (12, y2)], g2⟩ := by kernel_rfl
theorem r25_2a (call : CallK R) (rc : RC R) (x0 x12 : PV) (hp : Hp) (k : Ex → St → Option R) : evC tys e25 r25_2 call rc ⟨[(0, x0), (12, x12)], hp⟩ k =
  k .normal ⟨[(2, nl), (3, (i 0)), (4, (i 2))], hp⟩ := by kernel_rfl
theorem r25_3a (call : CallK R) (rc : RC R) (x0 x12 : PV) (hp : Hp) (k : Ex → St → Option R) : evC tys e25 r25_3 call rc ⟨[(0, x0), (12, x12)], hp⟩ k =
  k .normal ⟨[(0, x0), (5, nl)], hp⟩ := by kernel_rfl
theorem r25_4a (call : CallK R) (rc : RC R) (x0 x5 : PV) (hp : Hp) (k : Ex → St → Option R) : evC tys e25 r25_4 call rc ⟨[(0, x0), (5, x5)], hp⟩ k =
  call 49 [x0, (i 0)] hp fun y1 g1 =>
  k .normal ⟨[(0, x0), (5, x5), (6, y1)], g1⟩ := by kernel_rfl
theorem r25_5a (call : CallK R) (rc : RC R) (x0 x5 x6 : PV) (hp : Hp) (k : Ex → St → Option R) : evC tys e25 r25_5 call rc ⟨[(0, x0), (5, x5), (6, x6)], hp⟩ k =
  bP (primLen tys hp 9 (some x0)) fun y2 g2 =>
  bP (primBin tys g2 .lss 3 (some x6) (some y2)) fun y3 g3 =>
  k .normal ⟨[(0, x0), (5, x5), (6, x6), (18, y3)], g3⟩ := by kernel_rfl
theorem r25_7a (call : CallK R) (rc : RC R) (x0 x5 x6 x18 : PV) (hp : Hp) (k : Ex → St → Option R) : evC tys e25 r25_7 call rc ⟨[(0, x0), (5, x5), (6, x6), (18, x18)], hp⟩ k =
  call 50 [x0, x6] hp fun y2 g2 =>
  bP (primExtract g2 0 (some y2)) fun y4 g4 =>
  bP (primExtract g4 1 (some y2)) fun y5 g5 =>
  bP (primExtract g5 2 (some y2)) fun y6 g6 =>
  bP (primAlloc tys g6 103) fun y7 g7 =>
  bP (primStore tys g7 103 (some y7) (some y4)) fun y8 g8 =>
  k .normal ⟨[(0, x0), (5, x5), (6, x6), (7, y7), (8, y5), (9, y6)], g8⟩ := by kernel_rfl
theorem r25_8a (call : CallK R) (rc : RC R) (x0 x5 x6 x7 x8 x9 : PV) (hp : Hp) (k : Ex → St → Option R) : evC tys e25 r25_8 call rc ⟨[(0, x0), (5, x5), (6, x6), (7, x7), (8, x8), (9, x9)], hp⟩ k =
  bP (primBin tys hp .neq 46 (some x9) (some (i 0))) fun y1 g1 =>
  k .normal ⟨[(0, x0), (5, x5), (6, x6), (7, x7), (8, x8), (9, x9), (30, y1)], g1⟩ := by kernel_rfl
theorem r25_9a (call : CallK R) (rc : RC R) (x0 x5 x6 x7 x8 x9 x30 : PV) (hp : Hp) (k : Ex → St → Option R) : evC tys e25 r25_9 call rc ⟨[(0, x0), (5, x5), (6, x6), (7, x7), (8, x8), (9, x9), (30, x30)], hp⟩ k =
  k .normal ⟨[(2, nl), (3, x6), (4, x9)], hp⟩ := by kernel_rfl
theorem r25_10a (call : CallK R) (rc : RC R) (x0 x5 x6 x7 x8 x9 x30 : PV) (hp : Hp) (k : Ex → St → Option R) : evC tys e25 r25_10 call rc ⟨[(0, x0), (5, x5), (6, x6), (7, x7), (8, x8), (9, x9), (30, x30)], hp⟩ k =
  bP (primLoad tys hp 103 (some x7)) fun y1 g1 =>
  bP (primBuildSlice tys g1 68 1 (some [(0, y1)])) fun y2 g2 =>
  bP (prim2 (app tys 68 g2) (some x5) (some y2)) fun y3 g3 =>
  k .normal ⟨[(0, x0), (5, y3), (8, x8)], g3⟩ := by kernel_rfl
theorem r25_11a (call : CallK R) (rc : RC R) (x0 x5 x8 : PV) (hp : Hp) (k : Ex → St → Option R) : evC tys e25 r25_11 call rc ⟨[(0, x0), (5, x5), (8, x8)], hp⟩ k =
  k .normal ⟨[(0, x0), (5, x5), (6, x8)], hp⟩ := by kernel_rfl
theorem r25_6a (call : CallK R) (rc : RC R) (x0 x5 x6 : PV) (hp : Hp) (k : Ex → St → Option R) : evC tys e25 r25_6 call rc ⟨[(0, x0), (5, x5), (6, x6)], hp⟩ k =
  call 49 [x0, x6] hp fun y2 g2 =>
  k .normal ⟨[(0, x0), (5, x5), (6, y2)], g2⟩ := by kernel_rfl
theorem r25_12a (call : CallK R) (rc : RC R) (x0 x5 x6 x18 : PV) (hp : Hp) (k : Ex → St → Option R) : evC tys e25 r25_12 call rc ⟨[(0, x0), (5, x5), (6, x6), (18, x18)], hp⟩ k =
  k .normal ⟨[(2, x5), (3, (i 0)), (4, (i 0))], hp⟩ := by kernel_rfl
end
end Go.Ev

/- A run that began with a block told of, as it stands; facts in other words. -/
namespace Go.Ev
variable [Env]
section
variable {P : Program} {T : Types}
/-- the same, with the cells and the result as they stand -/
theorem knownS_run0 (hT : TOk P T) (hm : P.follows .mixedOrders = true) {FT : Fns} (hF : FTOk P FT) {O : Orc} (hO : OrcOk P O) {f : Nat} {fi : FI} (hf : FIOk P f fi) {n ty : Nat} {cs ds : List PV} {p q0 : PV} {h h2 : Hp} {cs0 : List PV}
    (g : ∀ k : PV → Hp → Option PV, bodyF T fi (run T FT O n) (.ptr 0 0 :: ds) (startS ty cs) k = k p h) (hq : freeze deepN h p = some (q0, h2)) (hg : viewS (twoS cs) h2 = some (ty, cs0)) : KnownS P f ty cs ds q0 cs0 := by
  have hr := run_sound (R := PV) (.un : PV) hT (drawSound (R := PV) .un hT hm) hF hO n
  have hu := run_uni (T := T) (R := PV) FT O n
  obtain ⟨h1, h2'⟩ := bodyF_sound' (.un : PV) hT hu hr ⟨hf.1, hf.2.1, hf.2.2.1⟩ g
  refine ⟨h1, fun w F M args hs hv => ?_⟩
  refine Calls.mono (h2' w F M args hs hv) ?_
  rintro e w' ⟨v, F', M', rfl, k1, k2, k3⟩
  obtain ⟨F2, m1, m2, m3⟩ := freeze_sound deepN h p q0 h2 hq F' v k2 k1
  have hx : Ext w w' F F2 M M' := k3.trans m2
  have hx' : Ext w w' F F2 M M := ⟨hx.os, hx.tape, hx.output, hx.size, hx.keep, hx.cell, fun _ _ h => h, hx.mF, fun _ _ h => .inl h, hx.newF⟩
  exact ⟨v, F2, rfl, m3, view_sound hs hv hx.mM m1 hg, hx'⟩

theorem Known.weak {f : Nat} {ds : List PV} {q q' : PV} {n : Nat} (h : Known P f ds q) (hp : peq n q q' = true) : Known P f ds q' :=
  ⟨h.1, fun w F args hF hv => Calls.mono (h.2 w F args hF hv) (by rintro e w' ⟨v, F', rfl, h1, h2, h3⟩; exact ⟨v, F', rfl, peq_VR n hp h1, h2, h3⟩)⟩
end
end Go.Ev

/- Numbers drawn from the source. -/
namespace Go.Ev
open Go.Proofs

abbrev num (z : Int) : PV := .v (.int .i64 z)
def IsL (lp : PV) (zs : List Int) : Prop := (lp = nl ∧ zs = []) ∨ ∃ ex, lp = .sl (zs.map fun z => [num z]) ex
abbrev src (lp : PV) (a : Nat) : Blk := ⟨[lp, i a], 2, false, 0, 67⟩
theorem int_rem_any (a : Int) (b : Nat) (hb : b ≠ 0) (h2 : b ≤ 1000000) : intOp .rem .i64 .i64 a (.ofNat b) = some (num (a.tmod b)) := by
  have hb' : ieqb (.ofNat b) 0 = false := by
    cases b with
    | zero => exact absurd rfl hb
    | succ b => rfl
  show (match decide (IntKind.i64 = IntKind.i64) with | true => intBin .rem .i64 a (.ofNat b) | false => none) = _
  simp only [decide_true, intBin, hb']
  rfl
theorem fa67 (hp : Hp) (id f : Nat) (hf : f < 2) : primFieldAddr tys hp 67 f (some (.ptr id 0)) = some (.ptr id f, hp) := by
  match f, hf with
  | 0, _ => rfl
  | 1, _ => rfl
theorem ldL {hp : Hp} {id a : Nat} {lp : PV} (h : hp.get id = some (src lp a)) : primLoad tys hp 22 (some (.ptr id 0)) = some (lp, hp) := load_cell (i := y22) rfl rfl h rfl
theorem ldA {hp : Hp} {id a : Nat} {lp : PV} (h : hp.get id = some (src lp a)) : primLoad tys hp 3 (some (.ptr id 1)) = some (i a, hp) := load_cell (i := y3) rfl rfl h rfl
theorem stA {hp : Hp} {id a : Nat} {lp : PV} (h : hp.get id = some (src lp a)) (n : Nat) : primStore tys hp 3 (some (.ptr id 1)) (some (i n)) = some (.un, hp.put id (src lp n)) :=
  store_cell (i := y3) rfl rfl h rfl rfl rfl
theorem lenL (hp : Hp) (es : List (List PV)) (ex : Bool) : primLen tys hp 22 (some (.sl es ex)) = some (i es.length, hp) := _root_.id rfl
theorem lenN (hp : Hp) : primLen tys hp 22 (some nl) = some (i 0, hp) := _root_.id rfl
theorem ixL (hp : Hp) {es : List (List PV)} {ex : Bool} {n : Nat} {z : PV} (h : es[n]? = some [z]) : primIndexAddr tys hp 22 (some (.sl es ex)) (some (i n)) = some (.ep [z] 0, hp) := by
  show ret1 hp (idxSl 1 (.sl es ex) n) = _
  simp only [idxSl, h]
  rfl
theorem ldE (hp : Hp) (z : Int) : primLoad tys hp 3 (some (.ep [num z] 0)) = some (num z, hp) := _root_.id rfl
theorem logEp (i m : Nat) (lg : Lg) (n : Nat) (x : PV) (t : TypeId) (cs : List PV) (o : Nat) : logLoad tys i m lg n x (some (t, .ep cs o)) = some lg := _root_.id rfl
theorem tmod_cases (z : Int) (m : Nat) (hm : 1 ≤ m) : (∃ x, x < m ∧ z.tmod (.ofNat m) = .ofNat x) ∨ (∃ y, y + 1 < m ∧ z.tmod (.ofNat m) = .negSucc y) := by
  cases z with
  | ofNat k => exact .inl ⟨k % m, Nat.mod_lt _ hm, rfl⟩
  | negSucc k =>
    have e : (Int.negSucc k).tmod (.ofNat m) = -(.ofNat ((k + 1) % m)) := rfl
    have hlt := Nat.mod_lt (k + 1) hm
    cases hr : (k + 1) % m with
    | zero => exact .inl ⟨0, hm, by rw [e, hr]; rfl⟩
    | succ y => exact .inr ⟨y, by omega, by rw [e, hr]; rfl⟩
theorem add_back (y m : Nat) (h : y + 1 < m) (h2 : m ≤ 1000) : intOp .add .i64 .i64 (.negSucc y) (.ofNat m) = some (i (m - (y + 1))) := by
  show some (PV.v (.int .i64 (wrapq .i64 (Int.negSucc y + Int.ofNat m)))) = _
  have : Int.negSucc y + Int.ofNat m = Int.ofNat (m - (y + 1)) := by
    rw [Int.negSucc_eq, Int.ofNat_eq_natCast, Int.ofNat_eq_natCast]; omega
  rw [this, wrapq64 (by omega)]
theorem opd_tmp (t : Nat) (tm : Tm) : opd (.tmp t) tm = Al.get tm t := _root_.id rfl
theorem next14 (O : Orc) {R : Type} (n : Nat) {hp : Hp} {id a m : Nat} {lp : PV} {zs : List Int} (hl : IsL lp zs) (hz : zs.length ≤ 70) (h : hp.get id = some (src lp a)) (hm : 1 ≤ m) (hm2 : m ≤ 1000) :
    ∃ x a' hp', x < m ∧ hp'.get id = some (src lp a') ∧ ∀ k : PV → Hp → Option R, bodyF tys e14 (run tys .lf O (n + 1)) [.ptr id 0, i m] hp k = k (i x) hp' := by
  have hm1 : Nat.ble 1 m = true := Nat.ble_eq_true_of_le hm
  by_cases hlt : a < zs.length
  · rcases hl with ⟨rfl, rfl⟩ | ⟨ex, rfl⟩
    · simp at hlt
    have hb : Nat.ble zs.length a = false := by rw [Bool.eq_false_iff]; intro e; have := Nat.le_of_ble_eq_true e; omega
    obtain ⟨z, hzz⟩ : ∃ z, zs[a]? = some z := ⟨_, List.getElem?_eq_getElem hlt⟩
    have hix : ((zs.map fun z => [num z]))[a]? = some [num z] := by rw [List.getElem?_map, hzz]; rfl
    have hlen : (zs.map fun z => [num z]).length = zs.length := by simp
    have hr := int_rem_any z m (by omega) (by omega)
    generalize zs.map (fun z => [num z]) = es at *
    rcases tmod_cases z m hm with ⟨x, hx, ht⟩ | ⟨y, hy, ht⟩
    · rw [show ((m : Int)) = Int.ofNat m from rfl, ht] at hr
      have hs : ileb (.ofNat 0) (.ofNat x) = true := rfl
      refine ⟨x, a + 1, hp.put id (src (.sl es ex) (a + 1)), hx, get_put _ _ _ _ h, fun k => ?_⟩
      rw [b14, run_succ, c14_eq]
      simp only [ev_seq, r14_0a, seqK_normal, r14_1a, primBin_eq, bin_int, int_lss, ofNat_ble, hm1, Bool.not_true, ret1_some', bP_some, want_ff, bWD_true, ranL_true, bLg_some, nil_ptr, fa67 _ _ _ (show 1 < 2 by decide), fa67 _ _ _ (show 0 < 2 by decide), ldA h, ldL h, logLoad_v, logLoad_sl, lenL, hlen, int_geq, hb, pick_f,
        ev_cond, opd_tmp, alget, Nat.reduceEqDiff, reduceIte, bB_false, ev_skip, r14_3a, ixL hp hix, ldE, logEp, hr, r14_4a, int_add64 a 1 (by omega), stA h, r14_5a, hs, r14_7b, ev_ret, seqK_ret, endK_ret, z14a, consO_some, oneR_one, bQ_some]
    · rw [show ((m : Int)) = Int.ofNat m from rfl, ht] at hr
      have hs : ileb (.ofNat 0) (.negSucc y) = false := rfl
      refine ⟨m - (y + 1), a + 1, hp.put id (src (.sl es ex) (a + 1)), by omega, get_put _ _ _ _ h, fun k => ?_⟩
      rw [b14, run_succ, c14_eq]
      simp only [ev_seq, r14_0a, seqK_normal, r14_1a, primBin_eq, bin_int, int_lss, ofNat_ble, hm1, Bool.not_true, Bool.not_false, ret1_some', bP_some, want_ff, bWD_true, ranL_true, bLg_some, nil_ptr, fa67 _ _ _ (show 1 < 2 by decide), fa67 _ _ _ (show 0 < 2 by decide), ldA h, ldL h, logLoad_v, logLoad_sl, lenL, hlen, int_geq, hb, pick_f,
        ev_cond, opd_tmp, alget, Nat.reduceEqDiff, reduceIte, bB_false, bB_true, ev_skip, r14_3a, ixL hp hix, ldE, logEp, hr, r14_4a, int_add64 a 1 (by omega), stA h, r14_5a, hs, r14_6a, add_back y m hy (by omega), r14_7a, ev_ret, seqK_ret, endK_ret, z14a, consO_some, oneR_one, bQ_some]
  · have hb : Nat.ble zs.length a = true := Nat.ble_eq_true_of_le (by omega)
    refine ⟨0, a, hp, by omega, h, fun k => ?_⟩
    rw [b14, run_succ, c14_eq]
    rcases hl with ⟨rfl, rfl⟩ | ⟨ex, rfl⟩
    · simp only [ev_seq, r14_0a, seqK_normal, r14_1a, primBin_eq, bin_int, int_lss, ofNat_ble, hm1, Bool.not_true, ret1_some', bP_some, want_ff, bWD_true, ranL_true, bLg_some, nil_ptr, fa67 _ _ _ (show 1 < 2 by decide), fa67 _ _ _ (show 0 < 2 by decide), ldA h, ldL h, logLoad_v, lenN, int_geq, show Nat.ble 0 a = true from Nat.ble_eq_true_of_le (Nat.zero_le _), pick_f,
        ev_cond, opd_tmp, alget, Nat.reduceEqDiff, reduceIte, bB_true, r14_2a, ev_ret, seqK_ret, endK_ret, z14a, consO_some, oneR_one, bQ_some]
    · have hlen : (zs.map fun z => [num z]).length = zs.length := by simp
      simp only [ev_seq, r14_0a, seqK_normal, r14_1a, primBin_eq, bin_int, int_lss, ofNat_ble, hm1, Bool.not_true, ret1_some', bP_some, want_ff, bWD_true, ranL_true, bLg_some, nil_ptr, fa67 _ _ _ (show 1 < 2 by decide), fa67 _ _ _ (show 0 < 2 by decide), ldA h, ldL h, logLoad_v, logLoad_sl, lenL, hlen, int_geq, hb, pick_f,
        ev_cond, opd_tmp, alget, Nat.reduceEqDiff, reduceIte, bB_true, r14_2a, ev_ret, seqK_ret, endK_ret, z14a, consO_some, oneR_one, bQ_some]
/-- a list of numbers, as it came -/
def SrcL (lp : PV) : Prop := ∃ zs, IsL lp zs ∧ zs.length ≤ 70
theorem src_ok {lp : PV} (h : SrcL lp) (a : Nat) : stOk (src lp a) = true := by
  obtain ⟨zs, ⟨rfl, _⟩ | ⟨ex, rfl⟩, _⟩ := h
  · rfl
  · rfl
theorem lfOk [Env] : FTOk Tryz.prog .lf := fun _ _ h => by cases h
/-- the number that is drawn -/
theorem twoS_src {lp : PV} (h : SrcL lp) (r : List PV) : twoS (lp :: r) = false := by
  obtain ⟨zs, ⟨rfl, _⟩ | ⟨ex, rfl⟩, _⟩ := h
  · rfl
  · rfl
theorem next_ok [Env] {lp : PV} (h : SrcL lp) (a m : Nat) (hm : 1 ≤ m) (hm2 : m ≤ 1000) : ∃ x a', x < m ∧ KnownS Tryz.prog 14 67 [lp, i a] [i m] (i x) [lp, i a'] := by
  have h' := h
  obtain ⟨zs, hl, hz⟩ := h
  have hg : (startS 67 [lp, i a]).get 0 = some (src lp a) := by
    rcases hl with ⟨rfl, _⟩ | ⟨ex, rfl⟩ <;> rfl
  obtain ⟨x, a', hp', h1, h2, h3⟩ := next14 (R := PV) (fun _ _ => none) 0 hl hz hg hm hm2
  refine ⟨x, a', h1, knownS_run0 tOk mixed lfOk (fun _ _ _ h => by cases h) e14ok h3 (h := hp') (h2 := hp') rfl ?_⟩
  rw [twoS_src h']
  unfold viewS
  rw [h2]
  simp only [src_ok h' a']
end Go.Ev
