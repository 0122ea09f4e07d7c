/- For every number, key and list of numbers, DemandTypes answers true and leaves its arguments as they read. Conditions: none. -/
import Derived.Test.YtaceidhlamlmhaaGreatEvMain
import Derived.Test.YtaceidhlamlmhaaGreatEvKeyD
import Derived.Test.YtaceidhlamlmhaaGreatRows
import Derived.WalkKit
import Derived.ProofKit
import Derived.OpenShut
import Derived.Carry
import Derived.Lib.SmallJoins
set_option linter.all false
namespace Go.Proofs.YtaceidhlamlmhaaGreat.demandTypes
open Go.ChangeShapes Go.WideShapes Go.ChangeAt Go.RowKit Go.WideElems Go.Joins Go.Ev

/-! ### the unknown numbers -/
theorem tmod_facts (x : Int) : -3 ≤ x.tmod 4 ∧ x.tmod 4 ≤ 3 ∧ x.tmod 2 = (x.tmod 4).tmod 2 := by
  rw [Int.tmod_eq_emod (a := x) (b := 4), Int.tmod_eq_emod (a := x) (b := 2), Int.tmod_eq_emod (b := 2)]
  split <;> split <;> split
  all_goals try simp only [Int.natAbs] at *
  all_goals omega
def qOf (x : Int) : Nat := (x.tmod 4 + 3).toNat
theorem qOf_lt (x : Int) : qOf x < 7 := by have := tmod_facts x; unfold qOf; omega
theorem qOf_eq (x : Int) : x.tmod 4 = (qOf x : Int) - 3 := by have := tmod_facts x; unfold qOf; omega

theorem rem_of {n d : Nat} {r : Int} (h : symRem n d = some r) (x : Int) (hx : x.tmod 4 = ((n / 2 - 50) % 7 : Nat) - 3) : x.tmod d = r ∧ d ≠ 0 ∧ n % 2 = 1 := by
  unfold symRem at h
  split at h
  · cases h
  · rename_i hn
    simp only [Bool.and_eq_true] at hn
    have h1 := Nat.eq_of_beq_eq_true hn.1
    have h2 := (tmod_facts x).2.2
    generalize (n / 2 - 50) % 7 = j at h hx
    have hd : d = 4 ∨ d = 2 := by
      unfold remOf at h
      split at h <;> first | (exact .inl rfl) | (exact .inr rfl) | (cases h)
    rcases hd with rfl | rfl
    · refine ⟨?_, by omega, h1⟩
      show x.tmod 4 = r
      rw [hx]
      unfold remOf at h
      split at h <;> first | (cases h; rfl) | (rename_i e; cases e) | (cases h)
    · refine ⟨?_, by omega, h1⟩
      show x.tmod 2 = r
      rw [h2, hx]
      unfold remOf at h
      split at h <;> first | (cases h; rfl) | (rename_i e; cases e) | (cases h)

/-- the unknown key, and the first two numbers -/
def num (z x0 x1 : Int) (n : Nat) : Int :=
  if n = 1 then z else if n = 101 + 2 * qOf x0 then x0 else if n = 115 + 2 * qOf x1 then x1 else ((n / 2 - 50) % 7 : Nat) - 3
theorem small_tmod (j : Nat) (h : j < 7) : (((j : Nat) : Int) - 3).tmod 4 = (j : Int) - 3 := by
  have : j = 0 ∨ j = 1 ∨ j = 2 ∨ j = 3 ∨ j = 4 ∨ j = 5 ∨ j = 6 := by omega
  rcases this with rfl | rfl | rfl | rfl | rfl | rfl | rfl <;> rfl
theorem num_rem (z x0 x1 : Int) (n : Nat) (hn : 101 ≤ n) : (num z x0 x1 n).tmod 4 = ((n / 2 - 50) % 7 : Nat) - 3 := by
  have q0 := qOf_lt x0
  have q1 := qOf_lt x1
  unfold num
  rw [if_neg (by omega)]
  split
  · rename_i h
    rw [qOf_eq x0, show (n / 2 - 50) % 7 = qOf x0 by omega]
  · split
    · rename_i h
      rw [qOf_eq x1, show (n / 2 - 50) % 7 = qOf x1 by omega]
    · exact small_tmod _ (Nat.mod_lt _ (by omega))
theorem symRem_ge {n d : Nat} {r : Int} (h : symRem n d = some r) : 101 ≤ n := by
  unfold symRem at h
  split at h
  · cases h
  · rename_i hn
    simp only [Bool.and_eq_true] at hn
    exact Nat.le_of_ble_eq_true hn.2
abbrev envOf (s : ByteArray) (z x0 x1 : Int) : Env where
  str := fun _ => s
  int := num z x0 x1
  rem := fun n _ _ h => rem_of h _ (num_rem z x0 x1 n (symRem_ge h))

/-! ### the walk -/
/-- a slice of numbers in a world -/
def Ints (W : World) (l : Value) : Prop := l = .slice none 0 0 ∨ ∃ (b off len cap : Nat) (zs : List Int), l = .slice (some ⟨b, off, none⟩) len cap ∧ len ≤ cap ∧ zs.length = len ∧ (0 < len → b < W.heap.size) ∧
  ∀ i, i < len → W.cell? ⟨b, off + i, none⟩ = some (.int .i64 (zs.getD i 0))

theorem vr_sl [Env] {W : World} {F : Fz} (hF : ∀ b o, b < W.heap.size → F b o) {b off len cap : Nat} (hl : len ≤ cap) (ps : List PV) (hlen : ps.length = len) (hb : 0 < len → b < W.heap.size) (f : Nat → Value)
    (hc : ∀ i, i < len → W.cell? ⟨b, off + i, none⟩ = some (f i)) (hp : ∀ i p, ps[i]? = some p → cellOk p = true ∧ VR W F noMap p (f i)) :
    VR W F noMap (.sl (ps.map fun p => [p]) false) (.slice (some ⟨b, off, none⟩) len cap) := by
  have hll : (ps.map fun p => [p]).length = len := by simp [hlen]
  have key : ∀ (i j : Nat) e c, (ps.map fun p => [p])[i]? = some e → e[j]? = some c → j = 0 ∧ ps[i]? = some c ∧ i < len := by
    intro i j e c he hc'
    rw [List.getElem?_map] at he
    cases hpi : ps[i]? with
    | none => simp [hpi] at he
    | some p =>
      simp [hpi] at he
      subst he
      match j with
      | 0 => simp at hc'; subst hc'; exact ⟨rfl, rfl, by rw [← hlen]; exact (List.getElem?_eq_some_iff.1 hpi).1⟩
      | j + 1 => simp at hc'
  have := VR.sl (w := W) (F := F) (M := noMap) (es := ps.map fun p => [p]) (ex := false) (b := b) (o := off) (cap := cap) (sz := 1) (f := fun i _ => f i) (by simp) (by rw [hll]; exact hl)
    (fun i e he => by
      rw [List.getElem?_map] at he
      cases hpi : ps[i]? with
      | none => simp [hpi] at he
      | some p => simp [hpi] at he; subst he; rfl)
    (fun i j e c he hc' => by
      obtain ⟨rfl, h1, h2⟩ := key i j e c he hc'
      exact ⟨(hp i c h1).1, hF _ _ (hb (by omega)), by simpa using hc i h2⟩)
    (fun i j e c he hc' => by
      obtain ⟨rfl, h1, h2⟩ := key i j e c he hc'
      exact (hp i c h1).2)
  rw [hll] at this
  exact this

theorem finish [Env] {W : World} {nP kP lP : PV} {a l k : Value} (hK : Known Tryz.prog 3 [nP, kP, lP] (.v (.bool true))) (h1 : VR W (fun b _ => b < W.heap.size) noMap nP a) (h2 : VR W (fun b _ => b < W.heap.size) noMap kP k)
    (h3 : VR W (fun b _ => b < W.heap.size) noMap lP l) : Calls Tryz.prog 3 #[a, k, l] W fun e W' => e = .returned (.bool true) ∧ Below W.heap.size W W' := by
  refine (hK.2 W (fun b _ => b < W.heap.size) #[a, k, l] (fun _ _ h => h) ⟨rfl, fun i c y hc hy => ?_⟩).mono ?_
  · match i with
    | 0 => simp at hc hy; subst hc; subst hy; exact h1
    | 1 => simp at hc hy; subst hc; subst hy; exact h2
    | 2 => simp at hc hy; subst hc; subst hy; exact h3
    | i + 3 => simp at hc
  · rintro e W' ⟨v, F', rfl, hv, _, hx⟩
    cases hv
    exact ⟨rfl, hx.os, hx.tape, hx.output, hx.size, fun b hb => hx.keep b hb fun i p h => by cases h⟩

theorem lOk_of [Env] {W : World} {l : Value} (x0 x1 : Int) (hl : Ints W l) (h0 : ∀ (b off len cap : Nat), l = .slice (some ⟨b, off, none⟩) len cap → (0 < len → W.cell? ⟨b, off, none⟩ = some (.int .i64 x0)) ∧ (1 < len → W.cell? ⟨b, off + 1, none⟩ = some (.int .i64 x1)))
    (e0 : Env.int (101 + 2 * qOf x0) = x0) (e1 : Env.int (115 + 2 * qOf x1) = x1) : ∃ lP, LOk lP ∧ VR W (fun b _ => b < W.heap.size) noMap lP l := by
  have v0 : ∀ (F : Fz), VR W F noMap (.sym (101 + 2 * qOf x0)) (.int .i64 x0) := fun F => by
    have := VR.sym (w := W) (F := F) (M := noMap) (n := 101 + 2 * qOf x0)
    rwa [Env.val_int (by omega), e0] at this
  have v1 : ∀ (F : Fz), VR W F noMap (.sym (115 + 2 * qOf x1)) (.int .i64 x1) := fun F => by
    have := VR.sym (w := W) (F := F) (M := noMap) (n := 115 + 2 * qOf x1)
    rwa [Env.val_int (by omega), e1] at this
  rcases hl with rfl | ⟨b, off, len, cap, zs, rfl, hle, hz, hb, hc⟩
  · exact ⟨_, lOk_nil, .v rfl⟩
  · obtain ⟨g0, g1⟩ := h0 b off len cap rfl
    match zs, hz with
    | [], hz =>
      refine ⟨_, lOk_0 false, ?_⟩
      exact vr_sl (fun _ _ h => h) hle [] hz hb (fun i => .int .i64 0) (fun i hi => by simp at hz; omega) (fun i p h => by simp at h)
    | [z], hz =>
      refine ⟨_, lOk_1 (qOf x0) (qOf_lt x0) false, ?_⟩
      refine vr_sl (fun _ _ h => h) hle [.sym (101 + 2 * qOf x0)] hz hb (fun i => .int .i64 x0) (fun i hi => ?_) (fun i p h => ?_)
      · have : i = 0 := by simp at hz; omega
        subst this
        exact g0 (by simp at hz; omega)
      · match i with
        | 0 => simp at h; subst h; exact ⟨rfl, v0 _⟩
        | i + 1 => simp at h
    | z :: z' :: rest, hz =>
      simp at hz
      refine ⟨_, lOk_2 (qOf x0) (qOf x1) (qOf_lt x0) (qOf_lt x1) false (rest.map fun n => .v (.int .i64 n)), ?_⟩
      have hm : ([.sym (101 + 2 * qOf x0)] :: [.sym (115 + 2 * qOf x1)] :: (rest.map fun n => PV.v (.int .i64 n)).map (fun z => [z])) = ((.sym (101 + 2 * qOf x0) :: .sym (115 + 2 * qOf x1) :: rest.map fun n => PV.v (.int .i64 n)) : List PV).map fun p => [p] := rfl
      rw [hm]
      refine vr_sl (fun _ _ h => h) hle _ (by simp; omega) hb (fun i => if i = 0 then .int .i64 x0 else if i = 1 then .int .i64 x1 else .int .i64 (rest.getD (i - 2) 0)) (fun i hi => ?_) (fun i p h => ?_)
      · match i with
        | 0 => exact g0 (by omega)
        | 1 => exact g1 (by omega)
        | i + 2 =>
          have := hc (i + 2) hi
          simpa using this
      · match i with
        | 0 => simp at h; subst h; exact ⟨rfl, v0 _⟩
        | 1 => simp at h; subst h; exact ⟨rfl, v1 _⟩
        | i + 2 =>
          simp at h
          obtain ⟨n, h1, rfl⟩ := h
          refine ⟨rfl, ?_⟩
          have : rest.getD i 0 = n := by simp [List.getD, h1]
          simp only [Nat.add_eq_zero_iff, Nat.reduceEqDiff, and_false, if_false, Nat.add_sub_cancel, this]
          exact .v rfl

theorem walk (W : World) (a0 z : Int) (s : ByteArray) (l : Value) (hl : Ints W l) :
    Calls Tryz.prog 3 #[.int .i64 a0, .agg #[.int .i64 z, .string s], l] W fun e W' => e = .returned (.bool true) ∧ Below W.heap.size W W' := by
  -- the first two numbers
  obtain ⟨x0, x1, h0⟩ : ∃ x0 x1 : Int, ∀ (b off len cap : Nat), l = .slice (some ⟨b, off, none⟩) len cap → (0 < len → W.cell? ⟨b, off, none⟩ = some (.int .i64 x0)) ∧ (1 < len → W.cell? ⟨b, off + 1, none⟩ = some (.int .i64 x1)) := by
    rcases hl with rfl | ⟨b, off, len, cap, zs, rfl, hle, hz, hb, hc⟩
    · exact ⟨0, 0, fun _ _ _ _ h => by cases h⟩
    · refine ⟨zs.getD 0 0, zs.getD 1 0, fun b' off' len' cap' h => ?_⟩
      cases h
      exact ⟨fun h => by simpa using hc 0 h, fun h => hc 1 h⟩
  letI : Env := envOf s z x0 x1
  have n0 : Env.int (101 + 2 * qOf x0) = x0 := by
    have := qOf_lt x0
    show num z x0 x1 (101 + 2 * qOf x0) = x0
    unfold num
    rw [if_neg (by omega), if_pos rfl]
  have n1 : Env.int (115 + 2 * qOf x1) = x1 := by
    have := qOf_lt x0
    have := qOf_lt x1
    show num z x0 x1 (115 + 2 * qOf x1) = x1
    unfold num
    rw [if_neg (by omega), if_neg (by omega), if_pos rfl]
  have nz : Env.int 1 = z := by
    show num z x0 x1 1 = z
    unfold num
    rw [if_pos rfl]
  obtain ⟨lP, hlP, hv⟩ := lOk_of x0 x1 hl h0 n0 n1
  have hn : VR W (fun b _ => b < W.heap.size) noMap (.v (.int .i64 a0)) (.int .i64 a0) := .v rfl
  have hs : VR W (fun b _ => b < W.heap.size) noMap (.sym 0) (.string s) := VR.sym (n := 0)
  have hk : ∀ kk : PV, cellOk kk = true → VR W (fun b _ => b < W.heap.size) noMap kk (.int .i64 z) → VR W (fun b _ => b < W.heap.size) noMap (.agg [kk, .sym 0]) (.agg #[.int .i64 z, .string s]) := by
    intro kk hc hv
    refine VR.agg (ys := [.int .i64 z, .string s]) rfl (fun i c h => ?_) (fun i c y h h' => ?_)
    · match i with
      | 0 => simp at h; subst h; exact hc
      | 1 => simp at h; subst h; rfl
      | i + 2 => simp at h
    · match i with
      | 0 => simp at h h'; subst h; subst h'; exact hv
      | 1 => simp at h h'; subst h; subst h'; exact hs
      | i + 2 => simp at h
  rcases keys with ⟨e, k⟩ | ⟨e, k⟩ | k
  · rw [nz] at e
    exact finish (main_0 k (nOk a0) hlP) hn (hk _ rfl (by rw [e]; exact .v rfl)) hv
  · rw [nz] at e
    exact finish (main_1 k (nOk a0) hlP) hn (hk _ rfl (by rw [e]; exact .v rfl)) hv
  · refine finish (main_2 k (nOk a0) hlP) hn (hk _ rfl ?_) hv
    have := VR.sym (w := W) (F := fun b _ => b < W.heap.size) (M := noMap) (n := 1)
    rwa [Env.val_int (by omega), nz] at this

/-! ### the row -/
theorem own : ownKnob Tryz.prog.godebug = none := by kernel_rfl
theorem laidOut : laidOutB Tryz.prog = true := by kernel_rfl
theorem cells3 : Tryz.prog.cellsOf 3 = 1 := by kernel_rfl
theorem cells23 : Tryz.prog.cellsOf 23 = 2 := by kernel_rfl

set_option maxRecDepth 100000 in
theorem lifted (os : Os) (started : os.Started) (H : Type) (enc : TypeId × Value → H) :
    ReturnsInHanded {} Tryz.checked os 3 .any (Rows.demandTypesSpec.pre6 enc Tryz.prog Tryz.f3 Rows.demandTypesRow.domain false) (Rows.demandTypesSpec.post enc Tryz.prog Tryz.f3 false true false false) := by
  refine returnsInHanded_of_change (C := Tryz.checked) own started (by kernel_rfl) Tryz.func3
    (ChangeSpec.witness6 (enc := enc) (C := Tryz.checked) false ⟨#[], #[.int .i64 0, .agg #[.int .i64 0, .string ⟨#[]⟩], .slice none 0 0], []⟩ 8 (by kernel_rfl) (by kernel_rfl) (by kernel_rfl) (by kernel_rfl)) ?_
  intro W base args ds gs before hval0 hW _ _
  have hval : ∀ (j : Nat) t v, Tryz.f3.params[j]? = some t → args[j]? = some v → Value.okWide Tryz.prog W .any base t v := hval0
  have hW' := hW
  obtain ⟨p, q, hA0, hV, rfl, _, _⟩ := hW
  have hA : DataW.TrodAll enc Tryz.prog W 0 (fun _ => true) true Tryz.f3.params.toList args.toList ds p := hA0
  rw [Tryz.params3] at hA hval
  obtain ⟨v0, vs0, d0, ds0, p0, q0, hargs0, rfl, rfl, h0, r0⟩ := trodAll_cons hA
  obtain ⟨v1, vs1, d1, ds1, p1, q1, rfl, rfl, rfl, h1, r1⟩ := trodAll_cons r0
  obtain ⟨v2, vs2, d2, ds2, p2, q2, rfl, rfl, rfl, h2, r2⟩ := trodAll_cons r1
  obtain ⟨rfl, rfl, rfl⟩ := trodAll_nil r2
  obtain rfl : args = #[v0, v1, v2] := by cases args; simp_all
  obtain ⟨rfl, rfl⟩ := trodVars_none hV
  clear hA0 hval0
  simp only [List.append_nil] at hW'
  have hlt : ∀ x ∈ p0 ++ (p1 ++ p2), x.block < W.heap.size := fun x hx => by simpa using hW'.lt x (by simpa using hx)
  have back : ∀ (W' : World), Below W.heap.size W W' → DataW.TrodAll enc Tryz.prog W' 0 (fun b => decide (b < W.heap.size)) true [3, 23, 24] [v0, v1, v2] [d0, d1, d2] (p0 ++ (p1 ++ (p2 ++ []))) := fun W' hn =>
    trodAll_cons_mk (Below.trod laidOut (by kernel_rfl) (of_decide_eq_true (by kernel_rfl)) h0 hn fun x hx => hlt x (by simp [hx]))
      (trodAll_cons_mk (Below.trod laidOut (by kernel_rfl) (of_decide_eq_true (by kernel_rfl)) h1 hn fun x hx => hlt x (by simp [hx]))
        (trodAll_cons_mk (Below.trod laidOut (by kernel_rfl) (of_decide_eq_true (by kernel_rfl)) h2 hn fun x hx => hlt x (by simp [hx])) trodAll_mk0))
  have k0 := h0
  have k1 := h1
  obtain ⟨a0, rfl, _, _, _⟩ := open_int Tryz.underlying3 (hval 0 3 v0 rfl rfl) k0
  obtain ⟨c0, c1, y0, y1, n, rfl, _, _, t0, t1⟩ := open_agg2 Tryz.underlying23 (by kernel_rfl) cells23 (hval 1 23 v1 rfl rfl) k1
  obtain ⟨z, hz, _, _⟩ := DataW.trod_int Tryz.underlying3 t0
  obtain ⟨s, hs, _, _⟩ := DataW.trod_string Tryz.underlying9 t1
  simp at hz hs
  subst hz; subst hs
  have hints : Ints W v2 := by
    have hok := hval 2 24 v2 rfl rfl
    obtain ⟨oa, len, cap, rfl⟩ := okWide_slice Tryz.underlying24 hok
    obtain ⟨fuel, hf⟩ := h2
    rcases open_ints Tryz.underlying24 Tryz.underlying3 cells3 hf with ⟨hcs, hx⟩ | ⟨a, len', cap', zs, hcs, _, hl, hm, hzl, hx, hcell, hwz⟩
    · simp [Value.cells] at hcs
      obtain ⟨rfl, rfl, rfl⟩ := hcs
      exact .inl rfl
    · simp [Value.cells] at hcs
      obtain ⟨rfl, rfl, rfl⟩ := hcs
      simp only [Prod.mk.injEq] at hx
      obtain ⟨rfl, rfl⟩ := hx
      simp only [if_true] at hzl
      have hspot : a.spot = none := by
        simp only [Value.okWide, Tryz.underlying24, Cell.okWide, Cell.ok] at hok
        exact hok.2.2.2.1
      obtain ⟨b, off, spot⟩ := a
      simp only at hspot
      subst hspot
      refine .inr ⟨b, off, len, cap, zs.take len, rfl, hl, by simp; omega, fun h => ?_, fun i hi => ?_⟩
      · exact hlt (.cell b off) (by simp only [List.mem_append]; exact .inr (.inr (MemPlace.mem_row.2 ⟨0, by omega, by simp⟩)))
      · have := hcell i (by omega)
        rw [List.getD_eq_getElem?_getD, List.getElem?_take_of_lt hi, ← List.getD_eq_getElem?_getD]
        rw [add_plain] at this
        exact this
  refine (walk W a0 z s v2 hints).mono fun e W' ⟨he, hb⟩ => ?_
  subst he
  exact ⟨_, rfl, ⟨_, _, _, [], _, [], hW', trodAll_mk1 (shut_bool Tryz.underlying4 _), back W' hb, rfl, hb.frame _, fun h => by cases h⟩⟩

theorem said : Rows.DemandTypesSaid :=
  OpenClaim.holds_of_wide 3 Tryz.f3 rfl rfl rfl rfl rfl rfl rfl ⟨rfl, rfl, rfl, rfl, rfl⟩ rfl rfl rfl rfl rfl (by kernel_rfl) Tryz.func3 (by kernel_rfl)
    (of_decide_eq_true (by kernel_rfl)) (by unfold Func.isWrapper; first | (rw [if_pos (by decide +kernel)]; kernel_rfl) | (rw [if_neg (by decide +kernel)]; exact ⟨rfl, rfl⟩))
    (fun os started H enc _ => lifted os started H enc)
end Go.Proofs.YtaceidhlamlmhaaGreat.demandTypes
