/- The law's function as a call, over the model's worlds. -/
import Derived.Test.YthblmompgocidaaGreatDoorEvWa
import Derived.WalkKit
import Derived.ProofKit
import Derived.OpenShut
import Derived.Carry
import Derived.Lib.SmallJoins
import GoSem.Claim
set_option linter.all false
namespace Go.Proofs.YthblmompgocidaaGreatDoor.boundaryCloses
open Go Go.ChangeShapes Go.WideShapes Go.ChangeAt Go.RowKit Go.WideElems Go.Joins Go.Ev

theorem rem0 (n d : Nat) (r : Int) (h : symRem n d = some r) : ((((n / 2 - 50) % 7 : Nat) : Int) - 3).tmod d = r ∧ d ≠ 0 ∧ n % 2 = 1 := by
  unfold symRem at h
  split at h
  · cases h
  · rename_i hn
    simp only [Bool.and_eq_true] at hn
    have h1 := Nat.eq_of_beq_eq_true hn.1
    have hj : (n / 2 - 50) % 7 < 7 := Nat.mod_lt _ (by omega)
    generalize (n / 2 - 50) % 7 = j at h hj
    have : j = 0 ∨ j = 1 ∨ j = 2 ∨ j = 3 ∨ j = 4 ∨ j = 5 ∨ j = 6 := by omega
    have hd : d = 4 ∨ d = 2 := by
      unfold remOf at h
      split at h <;> first | (exact .inl rfl) | (exact .inr rfl) | (cases h)
    rcases hd with rfl | rfl <;> rcases this with rfl | rfl | rfl | rfl | rfl | rfl | rfl <;> cases h <;> exact ⟨rfl, by omega, h1⟩

/-- a slice of numbers in a world -/
def Ints (W : World) (l : Value) : Prop := l = .slice none 0 0 ∨ ∃ (b off len cap : Nat) (zs : List Int), l = .slice (some ⟨b, off, none⟩) len cap ∧ len ≤ cap ∧ zs.length = len ∧ (0 < len → b < W.heap.size) ∧
  ∀ i, i < len → W.cell? ⟨b, off + i, none⟩ = some (.int .i64 (zs.getD i 0))

theorem vr_sl [Env] {W : World} {F : Fz} (hF : ∀ b o, b < W.heap.size → F b o) {b off len cap : Nat} (hl : len ≤ cap) (ps : List PV) (hlen : ps.length = len) (hb : 0 < len → b < W.heap.size) (f : Nat → Value)
    (hc : ∀ i, i < len → W.cell? ⟨b, off + i, none⟩ = some (f i)) (hp : ∀ i p, ps[i]? = some p → cellOk p = true ∧ VR W F noMap p (f i)) :
    VR W F noMap (.sl (ps.map fun p => [p]) false) (.slice (some ⟨b, off, none⟩) len cap) := by
  have hll : (ps.map fun p => [p]).length = len := by simp [hlen]
  have key : ∀ (i j : Nat) e c, (ps.map fun p => [p])[i]? = some e → e[j]? = some c → j = 0 ∧ ps[i]? = some c ∧ i < len := by
    intro i j e c he hc'
    rw [List.getElem?_map] at he
    cases hpi : ps[i]? with
    | none => simp [hpi] at he
    | some p =>
      simp [hpi] at he
      subst he
      match j with
      | 0 => simp at hc'; subst hc'; exact ⟨rfl, rfl, by rw [← hlen]; exact (List.getElem?_eq_some_iff.1 hpi).1⟩
      | j + 1 => simp at hc'
  have := VR.sl (w := W) (F := F) (M := noMap) (es := ps.map fun p => [p]) (ex := false) (b := b) (o := off) (cap := cap) (sz := 1) (f := fun i _ => f i) (by simp) (by rw [hll]; exact hl)
    (fun i e he => by
      rw [List.getElem?_map] at he
      cases hpi : ps[i]? with
      | none => simp [hpi] at he
      | some p => simp [hpi] at he; subst he; rfl)
    (fun i j e c he hc' => by
      obtain ⟨rfl, h1, h2⟩ := key i j e c he hc'
      exact ⟨(hp i c h1).1, hF _ _ (hb (by omega)), by simpa using hc i h2⟩)
    (fun i j e c he hc' => by
      obtain ⟨rfl, h1, h2⟩ := key i j e c he hc'
      exact (hp i c h1).2)
  rw [hll] at this
  exact this

theorem walk (W : World) (z : Int) (l : Value) (hl : Ints W l) : Calls Tryz.prog 3 #[.int .i64 z, l] W fun e W' => e = .returned (.bool true) ∧ Below W.heap.size W W' := by
  letI : Env := ⟨fun _ => ⟨#[]⟩, fun n => ((n / 2 - 50) % 7 : Nat) - 3, rem0, fun _ => .v (.bool true), fun _ => .inl ⟨_, rfl⟩⟩
  obtain ⟨lP, zs, h1, h2⟩ : ∃ lP zs, IsL lP zs ∧ VR W (fun b _ => b < W.heap.size) noMap lP l := by
    rcases hl with rfl | ⟨b, off, len, cap, zs, rfl, hle, hz, hb, hc⟩
    · exact ⟨_, [], .inl ⟨rfl, rfl⟩, .v rfl⟩
    · refine ⟨.sl (zs.map fun z => [num z]) false, zs, .inr ⟨false, rfl⟩, ?_⟩
      have := vr_sl (W := W) (F := fun b _ => b < W.heap.size) (fun _ _ h => h) hle (zs.map fun z => num z) (by simpa using hz) hb (fun i => .int .i64 (zs.getD i 0)) hc (fun i p h => by
        rw [List.getElem?_map] at h
        cases hzi : zs[i]? with
        | none => simp [hzi] at h
        | some n =>
          simp [hzi] at h
          subst h
          have : zs.getD i 0 = n := by simp [List.getD, hzi]
          rw [this]
          exact ⟨rfl, .v rfl⟩)
      rw [List.map_map] at this
      exact this
  have hK := B.law3 z h1
  refine (hK.2 W (fun b _ => b < W.heap.size) #[.int .i64 z, l] (fun _ _ h => h) ⟨rfl, fun i c y hc hy => ?_⟩).mono ?_
  · match i with
    | 0 => simp at hc hy; subst hc; subst hy; exact .v rfl
    | 1 => simp at hc hy; subst hc; subst hy; exact h2
    | i + 2 => simp at hc
  · rintro e W' ⟨v, F', rfl, hv, _, hx⟩
    cases hv
    exact ⟨rfl, hx.os, hx.tape, hx.output, hx.size, fun b hb => hx.keep b hb fun i p h => by cases h⟩

end Go.Proofs.YthblmompgocidaaGreatDoor.boundaryCloses
