/- For every list of numbers, DemandAbsent answers true and leaves its argument as it reads. Conditions: none. -/
import Derived.Test.YtmlnfoabpcccnaaGreatEvEe
import Derived.Test.YtmlnfoabpcccnaaGreatRows
import Derived.WalkKit
import Derived.ProofKit
import Derived.OpenShut
import Derived.Carry
import Derived.Lib.SmallJoins
set_option linter.all false
namespace Go.Proofs.YtmlnfoabpcccnaaGreat.demandAbsent
open Go Go.ChangeShapes Go.WideShapes Go.ChangeAt Go.RowKit Go.WideElems Go.Joins Go.Ev

theorem rem0 (n d : Nat) (r : Int) (h : symRem n d = some r) : ((((n / 2 - 50) % 7 : Nat) : Int) - 3).tmod d = r ∧ d ≠ 0 ∧ n % 2 = 1 := by
  unfold symRem at h
  split at h
  · cases h
  · rename_i hn
    simp only [Bool.and_eq_true] at hn
    have h1 := Nat.eq_of_beq_eq_true hn.1
    have hj : (n / 2 - 50) % 7 < 7 := Nat.mod_lt _ (by omega)
    generalize (n / 2 - 50) % 7 = j at h hj
    have : j = 0 ∨ j = 1 ∨ j = 2 ∨ j = 3 ∨ j = 4 ∨ j = 5 ∨ j = 6 := by omega
    have hd : d = 4 ∨ d = 2 := by
      unfold remOf at h
      split at h <;> first | (exact .inl rfl) | (exact .inr rfl) | (cases h)
    rcases hd with rfl | rfl <;> rcases this with rfl | rfl | rfl | rfl | rfl | rfl | rfl <;> cases h <;> exact ⟨rfl, by omega, h1⟩

/-- a slice of numbers in a world -/
def Ints (W : World) (l : Value) : Prop := l = .slice none 0 0 ∨ ∃ (b off len cap : Nat) (zs : List Int), l = .slice (some ⟨b, off, none⟩) len cap ∧ len ≤ cap ∧ zs.length = len ∧ (0 < len → b < W.heap.size) ∧
  ∀ i, i < len → W.cell? ⟨b, off + i, none⟩ = some (.int .i64 (zs.getD i 0))

theorem vr_sl [Env] {W : World} {F : Fz} (hF : ∀ b o, b < W.heap.size → F b o) {b off len cap : Nat} (hl : len ≤ cap) (ps : List PV) (hlen : ps.length = len) (hb : 0 < len → b < W.heap.size) (f : Nat → Value)
    (hc : ∀ i, i < len → W.cell? ⟨b, off + i, none⟩ = some (f i)) (hp : ∀ i p, ps[i]? = some p → cellOk p = true ∧ VR W F noMap p (f i)) :
    VR W F noMap (.sl (ps.map fun p => [p]) false) (.slice (some ⟨b, off, none⟩) len cap) := by
  have hll : (ps.map fun p => [p]).length = len := by simp [hlen]
  have key : ∀ (i j : Nat) e c, (ps.map fun p => [p])[i]? = some e → e[j]? = some c → j = 0 ∧ ps[i]? = some c ∧ i < len := by
    intro i j e c he hc'
    rw [List.getElem?_map] at he
    cases hpi : ps[i]? with
    | none => simp [hpi] at he
    | some p =>
      simp [hpi] at he
      subst he
      match j with
      | 0 => simp at hc'; subst hc'; exact ⟨rfl, rfl, by rw [← hlen]; exact (List.getElem?_eq_some_iff.1 hpi).1⟩
      | j + 1 => simp at hc'
  have := VR.sl (w := W) (F := F) (M := noMap) (es := ps.map fun p => [p]) (ex := false) (b := b) (o := off) (cap := cap) (sz := 1) (f := fun i _ => f i) (by simp) (by rw [hll]; exact hl)
    (fun i e he => by
      rw [List.getElem?_map] at he
      cases hpi : ps[i]? with
      | none => simp [hpi] at he
      | some p => simp [hpi] at he; subst he; rfl)
    (fun i j e c he hc' => by
      obtain ⟨rfl, h1, h2⟩ := key i j e c he hc'
      exact ⟨(hp i c h1).1, hF _ _ (hb (by omega)), by simpa using hc i h2⟩)
    (fun i j e c he hc' => by
      obtain ⟨rfl, h1, h2⟩ := key i j e c he hc'
      exact (hp i c h1).2)
  rw [hll] at this
  exact this

theorem walk (W : World) (l : Value) (hl : Ints W l) : Calls Tryz.prog 3 #[l] W fun e W' => e = .returned (.bool true) ∧ Below W.heap.size W W' := by
  letI : Env := ⟨fun _ => ⟨#[]⟩, fun n => ((n / 2 - 50) % 7 : Nat) - 3, rem0, fun _ => .v (.bool true), fun _ => .inl ⟨_, rfl⟩⟩
  obtain ⟨lP, zs, h1, h2⟩ : ∃ lP zs, IsL lP zs ∧ VR W (fun b _ => b < W.heap.size) noMap lP l := by
    rcases hl with rfl | ⟨b, off, len, cap, zs, rfl, hle, hz, hb, hc⟩
    · exact ⟨_, [], .inl ⟨rfl, rfl⟩, .v rfl⟩
    · refine ⟨.sl (zs.map fun z => [num z]) false, zs, .inr ⟨false, rfl⟩, ?_⟩
      have := vr_sl (W := W) (F := fun b _ => b < W.heap.size) (fun _ _ h => h) hle (zs.map fun z => num z) (by simpa using hz) hb (fun i => .int .i64 (zs.getD i 0)) hc (fun i p h => by
        rw [List.getElem?_map] at h
        cases hzi : zs[i]? with
        | none => simp [hzi] at h
        | some n =>
          simp [hzi] at h
          subst h
          have : zs.getD i 0 = n := by simp [List.getD, hzi]
          rw [this]
          exact ⟨rfl, .v rfl⟩)
      rw [List.map_map] at this
      exact this
  have hK := A.law3 h1
  refine (hK.2 W (fun b _ => b < W.heap.size) #[l] (fun _ _ h => h) ⟨rfl, fun i c y hc hy => ?_⟩).mono ?_
  · match i with
    | 0 => simp at hc hy; subst hc; subst hy; exact h2
    | i + 1 => simp at hc
  · rintro e W' ⟨v, F', rfl, hv, _, hx⟩
    cases hv
    exact ⟨rfl, hx.os, hx.tape, hx.output, hx.size, fun b hb => hx.keep b hb fun i p h => by cases h⟩

/-! ### the row -/
theorem own : ownKnob Tryz.prog.godebug = none := by kernel_rfl
theorem laidOut : laidOutB Tryz.prog = true := by kernel_rfl
theorem cells3 : Tryz.prog.cellsOf 3 = 1 := by kernel_rfl

set_option maxRecDepth 100000 in
theorem lifted (os : Os) (started : os.Started) (H : Type) (enc : TypeId × Value → H) :
    ReturnsInHanded {} Tryz.checked os 3 .any (Rows.demandAbsentSpec.pre6 enc Tryz.prog Tryz.f3 Rows.demandAbsentRow.domain false) (Rows.demandAbsentSpec.post enc Tryz.prog Tryz.f3 false true false false) := by
  refine returnsInHanded_of_change (C := Tryz.checked) own started (by kernel_rfl) Tryz.func3
    (ChangeSpec.witness6 (enc := enc) (C := Tryz.checked) false ⟨#[], #[.slice none 0 0], []⟩ 8 (by kernel_rfl) (by kernel_rfl) (by kernel_rfl) (by kernel_rfl)) ?_
  intro W base args ds gs before hval0 hW _ _
  have hval : ∀ (j : Nat) t v, Tryz.f3.params[j]? = some t → args[j]? = some v → Value.okWide Tryz.prog W .any base t v := hval0
  have hW' := hW
  obtain ⟨p, q, hA0, hV, rfl, _, _⟩ := hW
  have hA : DataW.TrodAll enc Tryz.prog W 0 (fun _ => true) true Tryz.f3.params.toList args.toList ds p := hA0
  rw [Tryz.params3] at hA hval
  obtain ⟨v0, vs0, d0, ds0, p0, q0, hargs0, rfl, rfl, h0, r0⟩ := trodAll_cons hA
  obtain ⟨rfl, rfl, rfl⟩ := trodAll_nil r0
  obtain rfl : args = #[v0] := by cases args; simp_all
  obtain ⟨rfl, rfl⟩ := trodVars_none hV
  clear hA0 hval0
  simp only [List.append_nil] at hW'
  have hlt : ∀ x ∈ p0, x.block < W.heap.size := fun x hx => by simpa using hW'.lt x (by simpa using hx)
  have back : ∀ (W' : World), Below W.heap.size W W' → DataW.TrodAll enc Tryz.prog W' 0 (fun b => decide (b < W.heap.size)) true [22] [v0] [d0] (p0 ++ []) := fun W' hn =>
    trodAll_cons_mk (Below.trod laidOut (by kernel_rfl) (of_decide_eq_true (by kernel_rfl)) h0 hn fun x hx => hlt x hx) trodAll_mk0
  have hints : Ints W v0 := by
    have hok := hval 0 22 v0 rfl rfl
    obtain ⟨oa, len, cap, rfl⟩ := okWide_slice Tryz.underlying22 hok
    obtain ⟨fuel, hf⟩ := h0
    rcases open_ints Tryz.underlying22 Tryz.underlying3 cells3 hf with ⟨hcs, hx⟩ | ⟨a, len', cap', zs, hcs, _, hl, hm, hzl, hx, hcell, hwz⟩
    · simp [Value.cells] at hcs
      obtain ⟨rfl, rfl, rfl⟩ := hcs
      exact .inl rfl
    · simp [Value.cells] at hcs
      obtain ⟨rfl, rfl, rfl⟩ := hcs
      simp only [Prod.mk.injEq] at hx
      obtain ⟨rfl, rfl⟩ := hx
      simp only [if_true] at hzl
      have hspot : a.spot = none := by
        simp only [Value.okWide, Tryz.underlying22, Cell.okWide, Cell.ok] at hok
        exact hok.2.2.2.1
      obtain ⟨b, off, spot⟩ := a
      simp only at hspot
      subst hspot
      refine .inr ⟨b, off, len, cap, zs.take len, rfl, hl, by simp; omega, fun h => ?_, fun i hi => ?_⟩
      · exact hlt (.cell b off) (MemPlace.mem_row.2 ⟨0, by omega, by simp⟩)
      · have := hcell i (by omega)
        rw [List.getD_eq_getElem?_getD, List.getElem?_take_of_lt hi, ← List.getD_eq_getElem?_getD]
        rw [add_plain] at this
        exact this
  refine (walk W v0 hints).mono fun e W' ⟨he, hb⟩ => ?_
  subst he
  exact ⟨_, rfl, ⟨_, _, _, [], _, [], hW', trodAll_mk1 (shut_bool Tryz.underlying4 _), back W' hb, rfl, hb.frame _, fun h => by cases h⟩⟩

theorem said : Rows.DemandAbsentSaid :=
  OpenClaim.holds_of_wide 3 Tryz.f3 rfl rfl rfl rfl rfl rfl rfl ⟨rfl, rfl, rfl, rfl, rfl⟩ rfl rfl rfl rfl rfl (by kernel_rfl) Tryz.func3 (by kernel_rfl)
    (of_decide_eq_true (by kernel_rfl)) (by unfold Func.isWrapper; first | (rw [if_pos (by decide +kernel)]; kernel_rfl) | (rw [if_neg (by decide +kernel)]; exact ⟨rfl, rfl⟩))
    (fun os started H enc _ => lifted os started H enc)
end Go.Proofs.YtmlnfoabpcccnaaGreat.demandAbsent
