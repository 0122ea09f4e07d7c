/- The law's function: whatever list, it answers true. -/
import Derived.Test.YtmlnfoabpcccnaaGreatEvEa
import Derived.Test.YtmlnfoabpcccnaaGreatEvEd
set_option linter.all false
namespace Go.Ev.A
open Go.Proofs
theorem isUn_eq [E : Env] {c : List PV} (h : isUn c = true) : c = un 2000 10 := by
  unfold isUn at h
  rw [Bool.and_eq_true] at h
  have := unSeq_eq h.2
  rwa [Nat.eq_of_beq_eq_true h.1] at this
/-- the cells of an expression, and other cells -/
def zL (X : List PV) (a b : PV) (k : Nat) : PV := if 2000 ≤ k ∧ k < 2010 then X.getD (k - 2000) (I 0) else if k = 0 then a else if k = 5000 then b else if k = 7 then b else I 0
theorem zL_un [E : Env] {X : List PV} {a b : PV} (hl : X.length = 10) : subL (zL X a b) (un 2000 10) = X := un_sub 10 2000 X hl fun c hc => by
  unfold zL
  rw [if_pos (by omega), Nat.add_sub_cancel_left]
theorem zL_fit {X : List PV} {a b : PV} (hX : ∀ c ∈ X, formed c) (ha : formed a) (hb : formed b) : Fit (zL X a b) := by
  have : ∀ k, formed (zL X a b k) := by
    intro k
    unfold zL
    split
    · exact formed_getD hX _
    split
    · exact ha
    split
    · exact hb
    split
    · exact hb
    · exact ⟨.inl ⟨_, rfl⟩, rfl⟩
  exact ⟨fun k => (this k).1, fun k => (this k).2⟩
theorem formed_V (v : Value) : formed (.v v) := ⟨.inl ⟨v, rfl⟩, rfl⟩
section
variable [E : Env]
theorem demand_known {X : List PV} (hl : X.length = 10) (hX : ∀ c ∈ X, formed c) {x : List UInt8} (h : Known Tryz.prog 19 [nl, .agg X, Str x] nl) : Known Tryz.prog 8 [.agg X, Str x] anyT := by
  have hσ := zL_fit hX (formed_V (.bool true)) (formed_V (.string ⟨⟨x⟩⟩))
  have s5 : zL X (.v (.bool true)) (Str x) 5000 = Str x := by unfold zL; rw [if_neg (by omega), if_neg (by omega), if_pos rfl]
  have hO : @OrcOk (E.put _ hσ.form) Tryz.prog orcD8 := by
    intro g ds q hq
    refine KnownX.unsub hσ ?_
    unfold orcD8 at hq
    split at hq
    · split at hq
      · rename_i hc
        cases hq
        rw [isUn_eq hc]
        simp only [subL, Ev.sub, zL_un hl, s5]
        exact knownX19 h rfl
      · cases hq
    · cases hq
  have := (Known.sub hσ (P := Tryz.prog) (f := 8) (ds := [.agg (un 2000 10), .unk 5000]) (q := anyT)).1 (by
    letI := E.put _ hσ.form
    exact known_goes (T := tys2) tOk2 mixed fnsJOk hO e8ok d8Ok)
  simp only [subL, Ev.sub, zL_un hl, s5, anyT, subE] at this
  exact this
theorem bools_mem : ∀ (l : List Bool), l ∈ bools l.length
  | [] => List.mem_singleton.2 rfl
  | b :: r => by
    rw [List.length_cons, bools]
    cases b with
    | true => exact List.mem_append_left _ (List.mem_map.2 ⟨r, bools_mem r, rfl⟩)
    | false => exact List.mem_append_right _ (List.mem_map.2 ⟨r, bools_mem r, rfl⟩)
theorem name_bit {s : PV} {f : List Nat → Bool} : ∀ {ws : List (List Nat)} {b : Bool}, nameB' s ws (ws.map f) = some b → ∃ w ∈ ws, s = S w ∧ b = f w
  | [], b, h => by cases h
  | w :: r, b, h => by
    simp only [List.map_cons, nameB'] at h
    split at h
    · rename_i hw
      cases h
      exact ⟨w, List.mem_cons_self .., txtEq_eq hw, rfl⟩
    · obtain ⟨w', h1, h2, h3⟩ := name_bit h
      exact ⟨w', List.mem_cons_of_mem _ h1, h2, h3⟩
theorem any_eq' {p : PV} (h : anyEq p = true) : peq 1000 p anyT = true := by
  exact h
theorem law3 {lp : PV} {zs : List Int} (h : IsL lp zs) : Known Tryz.prog 3 [lp] (.v (.bool true)) := by
  obtain ⟨X, x1, x2, x3, hmade⟩ := made_known h
  obtain ⟨hEt, hDn⟩ := ez_ok x3
  obtain ⟨y, L, hy, hfv, hL, hfree⟩ := free_known hEt (by omega)
  have fy : formed y := by
    rcases hy with ⟨rfl, _⟩ | ⟨ex, rfl⟩
    · exact ⟨.inl ⟨_, rfl⟩, rfl⟩
    · exact formed_sl fun e he c hc => by
        obtain ⟨t, _, rfl⟩ := List.mem_map.1 he
        rw [List.mem_singleton.1 hc]
        exact ⟨.inl ⟨_, rfl⟩, rfl⟩
  have flp : formed lp := by
    rcases h with ⟨rfl, _⟩ | ⟨ex, rfl⟩
    · exact ⟨.inl ⟨_, rfl⟩, rfl⟩
    · exact formed_sl fun e he c hc => by
        obtain ⟨t, _, rfl⟩ := List.mem_map.1 he
        rw [List.mem_singleton.1 hc]
        exact ⟨.inl ⟨_, rfl⟩, rfl⟩
  let f : List Nat → Bool := fun w => amB L (bts w)
  have hok : okL3 (fiveN.map f) = true := List.all_eq_true.1 l3Ok _ (by
    have := bools_mem (fiveN.map f)
    rw [List.length_map] at this
    exact this)
  have hσ := zL_fit x2 fy flp
  have s0 : zL X y lp 0 = y := by unfold zL; rw [if_neg (by omega), if_pos rfl]
  have s7 : zL X y lp 7 = lp := by unfold zL; rw [if_neg (by omega), if_neg (by omega), if_neg (by omega), if_pos rfl]
  have subS : ∀ w, Ev.sub (zL X y lp) (S w) = Str (bts w) := fun w => by rw [Ev.sub]; rfl
  have hO : @OrcOk (E.put _ hσ.form) Tryz.prog (orcL3 (fiveN.map f)) := by
    intro g ds q hq
    unfold orcL3 at hq
    split at hq
    · cases hq
      refine KnownX.unsub hσ ?_
      simp only [subL, Ev.sub, zL_un x1, s7]
      rcases h with ⟨rfl, _⟩ | ⟨ex, rfl⟩ <;> exact hmade
    · split at hq
      · rename_i hc
        cases hq
        refine KnownX.unsub hσ ?_
        rw [isUn_eq hc]
        simp only [subL, Ev.sub, zL_un x1, s0]
        exact hfree
      · cases hq
    · split at hq
      · rename_i b hb
        cases hq
        obtain ⟨w, hw, rfl, rfl⟩ := name_bit hb
        refine KnownX.unsub hσ ?_
        simp only [subL, Ev.sub, s0]
        have := among_known hy hL (bts w)
        rcases hy with ⟨rfl, _⟩ | ⟨ex, rfl⟩ <;> exact this
      · cases hq
    · split at hq
      · rename_i hc hb
        cases hq
        obtain ⟨w, hw, rfl, hf⟩ := name_bit hb
        refine KnownX.unsub hσ ?_
        rw [isUn_eq hc]
        have hne : bts w ≠ [] := by
          simp only [fiveN, List.mem_cons, List.not_mem_nil, or_false] at hw
          rcases hw with rfl | rfl | rfl | rfl | rfl <;> simp [bts]
        have hnf : ¬ Fv X (bts w) := fun hv => by
          have hm := hfv _ hv
          have : amB L (bts w) = true := List.any_eq_true.2 ⟨_, hm, bytesEq_rfl _⟩
          rw [show amB L (bts w) = f w from rfl, ← hf] at this
          cases this
        have := demand_known x1 x2 (hDn (bts w) hne hnf)
        have e : Ev.sub (zL X y lp) anyT = anyT := by simp only [anyT, Ev.sub, subL, subE]
        rw [e]
        simp only [subL, Ev.sub, zL_un x1]
        exact this
      · cases hq
    · cases hq
      letI := E.put _ hσ.form
      exact k158
    · rename_i pa pb
      split at hq
      · rename_i hc
        cases hq
        rw [Bool.and_eq_true] at hc
        letI := E.put _ hσ.form
        refine find_ok (pg := [([anyT, anyT], Bo true)]) ⟨k163, trivial⟩ ?_
        unfold find
        have : peqR [pa, pb] [anyT, anyT] = true := by
          simp only [peqR, any_eq' hc.1, any_eq' hc.2]
        rw [this]
      · cases hq
    · cases hq
      letI := E.put _ hσ.form
      exact k164
    · cases hq
  have := (Known.sub hσ (P := Tryz.prog) (f := 3) (ds := [.unk 7]) (q := Bo true)).1 (by
    letI := E.put _ hσ.form
    exact known_goes (T := tys2) tOk2 mixed lf0 hO e3ok hok)
  simp only [subL, Ev.sub, s7] at this
  exact this
end
end Go.Ev.A
