/- Interfaces and reports from bytes: what follows once the sum is right. -/
import Derived.Test.YtaedechkfmjcnaaGreatDoorEvPc
set_option linter.all false
/- Interfaces and reports from bytes: what follows once the sum is right. -/
namespace Go.Ev
open Go.Proofs
abbrev fc0 : PV := .agg [sb [], bt false, nl]
abbrev z26 : Hp := ⟨[(0, ⟨[sb [], bt false, nl], 3, false, 0⟩)], 1, []⟩
theorem rest6_1 (O : Orc) {R : Type} (n : Nat) (d0 : UInt8) (hp : Hp) (k : PV → Hp → Option R) : evC tys e6 (.seq r6_4 (.seq r6_5 (.seq (.seq r6_6 (.seq r6_7 (.cond (.tmp 26) (.seq r6_8 .ret) .skip))) (.seq (.seq r6_9 (.cond (.tmp 31) (.seq r6_10 .ret) .skip)) (.seq r6_11 .ret))))) (callF tys fns O (run tys fns O (n + 100))) (run tys fns O (n + 100)) ⟨[(2, .ptr 0 0), (4, bstr [1, 109, 1, d0]), (5, i 0), (15, bt false)], z26⟩ (endK tys e6.fn (dataK k hp)) = k (.tup [fc0, i 5]) hp := by kernel_rfl
theorem rest7_1 (O : Orc) {R : Type} (n : Nat) (d0 : UInt8) (hp : Hp) (k : PV → Hp → Option R) : evC tys e7 (.seq r7_4 (.seq r7_5 (.seq r7_6 (.seq (.seq r7_7 (.cond (.tmp 33) r7_8 .skip)) (.seq (.seq r7_9 (.cond (.tmp 41) (.seq r7_10 .ret) .skip)) (.seq r7_11 .ret)))))) (callF tys fns O (run tys fns O (n + 100))) (run tys fns O (n + 100)) ⟨[(2, .ptr 0 0), (4, bstr [1, 109, 1, d0]), (5, i 0), (14, bt false)], z26⟩ (endK tys e7.fn (dataK k hp)) = k (.tup [fc0, i 5]) hp := by kernel_rfl
theorem rest6_2 (O : Orc) {R : Type} (n : Nat) (d0 d1 : UInt8) (hp : Hp) (k : PV → Hp → Option R) : evC tys e6 (.seq r6_4 (.seq r6_5 (.seq (.seq r6_6 (.seq r6_7 (.cond (.tmp 26) (.seq r6_8 .ret) .skip))) (.seq (.seq r6_9 (.cond (.tmp 31) (.seq r6_10 .ret) .skip)) (.seq r6_11 .ret))))) (callF tys fns O (run tys fns O (n + 100))) (run tys fns O (n + 100)) ⟨[(2, .ptr 0 0), (4, bstr [1, 109, 1, d0, d1]), (5, i 0), (15, bt false)], z26⟩ (endK tys e6.fn (dataK k hp)) = k (.tup [fc0, i 5]) hp := by kernel_rfl
theorem rest7_2 (O : Orc) {R : Type} (n : Nat) (d0 d1 : UInt8) (hp : Hp) (k : PV → Hp → Option R) : evC tys e7 (.seq r7_4 (.seq r7_5 (.seq r7_6 (.seq (.seq r7_7 (.cond (.tmp 33) r7_8 .skip)) (.seq (.seq r7_9 (.cond (.tmp 41) (.seq r7_10 .ret) .skip)) (.seq r7_11 .ret)))))) (callF tys fns O (run tys fns O (n + 100))) (run tys fns O (n + 100)) ⟨[(2, .ptr 0 0), (4, bstr [1, 109, 1, d0, d1]), (5, i 0), (14, bt false)], z26⟩ (endK tys e7.fn (dataK k hp)) = k (.tup [fc0, i 5]) hp := by kernel_rfl
theorem rest6_3 (O : Orc) {R : Type} (n : Nat) (d0 d1 d2 : UInt8) (hp : Hp) (k : PV → Hp → Option R) : evC tys e6 (.seq r6_4 (.seq r6_5 (.seq (.seq r6_6 (.seq r6_7 (.cond (.tmp 26) (.seq r6_8 .ret) .skip))) (.seq (.seq r6_9 (.cond (.tmp 31) (.seq r6_10 .ret) .skip)) (.seq r6_11 .ret))))) (callF tys fns O (run tys fns O (n + 100))) (run tys fns O (n + 100)) ⟨[(2, .ptr 0 0), (4, bstr [1, 109, 1, d0, d1, d2]), (5, i 0), (15, bt false)], z26⟩ (endK tys e6.fn (dataK k hp)) = k (.tup [fc0, i 5]) hp := by kernel_rfl
theorem rest7_3 (O : Orc) {R : Type} (n : Nat) (d0 d1 d2 : UInt8) (hp : Hp) (k : PV → Hp → Option R) : evC tys e7 (.seq r7_4 (.seq r7_5 (.seq r7_6 (.seq (.seq r7_7 (.cond (.tmp 33) r7_8 .skip)) (.seq (.seq r7_9 (.cond (.tmp 41) (.seq r7_10 .ret) .skip)) (.seq r7_11 .ret)))))) (callF tys fns O (run tys fns O (n + 100))) (run tys fns O (n + 100)) ⟨[(2, .ptr 0 0), (4, bstr [1, 109, 1, d0, d1, d2]), (5, i 0), (14, bt false)], z26⟩ (endK tys e7.fn (dataK k hp)) = k (.tup [fc0, i 5]) hp := by kernel_rfl
theorem rest6_4 (O : Orc) {R : Type} (n : Nat) (d0 d1 d2 d3 : UInt8) (hp : Hp) (k : PV → Hp → Option R) : evC tys e6 (.seq r6_4 (.seq r6_5 (.seq (.seq r6_6 (.seq r6_7 (.cond (.tmp 26) (.seq r6_8 .ret) .skip))) (.seq (.seq r6_9 (.cond (.tmp 31) (.seq r6_10 .ret) .skip)) (.seq r6_11 .ret))))) (callF tys fns O (run tys fns O (n + 100))) (run tys fns O (n + 100)) ⟨[(2, .ptr 0 0), (4, bstr [1, 109, 1, d0, d1, d2, d3]), (5, i 0), (15, bt false)], z26⟩ (endK tys e6.fn (dataK k hp)) = k (.tup [fc0, i 5]) hp := by kernel_rfl
theorem rest7_4 (O : Orc) {R : Type} (n : Nat) (d0 d1 d2 d3 : UInt8) (hp : Hp) (k : PV → Hp → Option R) : evC tys e7 (.seq r7_4 (.seq r7_5 (.seq r7_6 (.seq (.seq r7_7 (.cond (.tmp 33) r7_8 .skip)) (.seq (.seq r7_9 (.cond (.tmp 41) (.seq r7_10 .ret) .skip)) (.seq r7_11 .ret)))))) (callF tys fns O (run tys fns O (n + 100))) (run tys fns O (n + 100)) ⟨[(2, .ptr 0 0), (4, bstr [1, 109, 1, d0, d1, d2, d3]), (5, i 0), (14, bt false)], z26⟩ (endK tys e7.fn (dataK k hp)) = k (.tup [fc0, i 5]) hp := by kernel_rfl
theorem rest6_5 (O : Orc) {R : Type} (n : Nat) (d0 d1 d2 d3 d4 : UInt8) (hp : Hp) (k : PV → Hp → Option R) : evC tys e6 (.seq r6_4 (.seq r6_5 (.seq (.seq r6_6 (.seq r6_7 (.cond (.tmp 26) (.seq r6_8 .ret) .skip))) (.seq (.seq r6_9 (.cond (.tmp 31) (.seq r6_10 .ret) .skip)) (.seq r6_11 .ret))))) (callF tys fns O (run tys fns O (n + 100))) (run tys fns O (n + 100)) ⟨[(2, .ptr 0 0), (4, bstr [1, 109, 1, d0, d1, d2, d3, d4]), (5, i 0), (15, bt false)], z26⟩ (endK tys e6.fn (dataK k hp)) = k (.tup [fc0, i 5]) hp := by kernel_rfl
theorem rest7_5 (O : Orc) {R : Type} (n : Nat) (d0 d1 d2 d3 d4 : UInt8) (hp : Hp) (k : PV → Hp → Option R) : evC tys e7 (.seq r7_4 (.seq r7_5 (.seq r7_6 (.seq (.seq r7_7 (.cond (.tmp 33) r7_8 .skip)) (.seq (.seq r7_9 (.cond (.tmp 41) (.seq r7_10 .ret) .skip)) (.seq r7_11 .ret)))))) (callF tys fns O (run tys fns O (n + 100))) (run tys fns O (n + 100)) ⟨[(2, .ptr 0 0), (4, bstr [1, 109, 1, d0, d1, d2, d3, d4]), (5, i 0), (14, bt false)], z26⟩ (endK tys e7.fn (dataK k hp)) = k (.tup [fc0, i 5]) hp := by kernel_rfl
theorem rest6_6 (O : Orc) {R : Type} (n : Nat) (d0 d1 d2 d3 d4 d5 : UInt8) (hp : Hp) (k : PV → Hp → Option R) : evC tys e6 (.seq r6_4 (.seq r6_5 (.seq (.seq r6_6 (.seq r6_7 (.cond (.tmp 26) (.seq r6_8 .ret) .skip))) (.seq (.seq r6_9 (.cond (.tmp 31) (.seq r6_10 .ret) .skip)) (.seq r6_11 .ret))))) (callF tys fns O (run tys fns O (n + 100))) (run tys fns O (n + 100)) ⟨[(2, .ptr 0 0), (4, bstr [1, 109, 1, d0, d1, d2, d3, d4, d5]), (5, i 0), (15, bt false)], z26⟩ (endK tys e6.fn (dataK k hp)) = k (.tup [fc0, i 5]) hp := by kernel_rfl
theorem rest7_6 (O : Orc) {R : Type} (n : Nat) (d0 d1 d2 d3 d4 d5 : UInt8) (hp : Hp) (k : PV → Hp → Option R) : evC tys e7 (.seq r7_4 (.seq r7_5 (.seq r7_6 (.seq (.seq r7_7 (.cond (.tmp 33) r7_8 .skip)) (.seq (.seq r7_9 (.cond (.tmp 41) (.seq r7_10 .ret) .skip)) (.seq r7_11 .ret)))))) (callF tys fns O (run tys fns O (n + 100))) (run tys fns O (n + 100)) ⟨[(2, .ptr 0 0), (4, bstr [1, 109, 1, d0, d1, d2, d3, d4, d5]), (5, i 0), (14, bt false)], z26⟩ (endK tys e7.fn (dataK k hp)) = k (.tup [fc0, i 5]) hp := by kernel_rfl
theorem rest6_7 (O : Orc) {R : Type} (n : Nat) (d0 d1 d2 d3 d4 d5 d6 : UInt8) (hp : Hp) (k : PV → Hp → Option R) : evC tys e6 (.seq r6_4 (.seq r6_5 (.seq (.seq r6_6 (.seq r6_7 (.cond (.tmp 26) (.seq r6_8 .ret) .skip))) (.seq (.seq r6_9 (.cond (.tmp 31) (.seq r6_10 .ret) .skip)) (.seq r6_11 .ret))))) (callF tys fns O (run tys fns O (n + 100))) (run tys fns O (n + 100)) ⟨[(2, .ptr 0 0), (4, bstr [1, 109, 1, d0, d1, d2, d3, d4, d5, d6]), (5, i 0), (15, bt false)], z26⟩ (endK tys e6.fn (dataK k hp)) = k (.tup [fc0, i 5]) hp := by kernel_rfl
theorem rest7_7 (O : Orc) {R : Type} (n : Nat) (d0 d1 d2 d3 d4 d5 d6 : UInt8) (hp : Hp) (k : PV → Hp → Option R) : evC tys e7 (.seq r7_4 (.seq r7_5 (.seq r7_6 (.seq (.seq r7_7 (.cond (.tmp 33) r7_8 .skip)) (.seq (.seq r7_9 (.cond (.tmp 41) (.seq r7_10 .ret) .skip)) (.seq r7_11 .ret)))))) (callF tys fns O (run tys fns O (n + 100))) (run tys fns O (n + 100)) ⟨[(2, .ptr 0 0), (4, bstr [1, 109, 1, d0, d1, d2, d3, d4, d5, d6]), (5, i 0), (14, bt false)], z26⟩ (endK tys e7.fn (dataK k hp)) = k (.tup [fc0, i 5]) hp := by kernel_rfl
theorem rest6_8 (O : Orc) {R : Type} (n : Nat) (d0 d1 d2 d3 d4 d5 d6 d7 : UInt8) (hp : Hp) (k : PV → Hp → Option R) : evC tys e6 (.seq r6_4 (.seq r6_5 (.seq (.seq r6_6 (.seq r6_7 (.cond (.tmp 26) (.seq r6_8 .ret) .skip))) (.seq (.seq r6_9 (.cond (.tmp 31) (.seq r6_10 .ret) .skip)) (.seq r6_11 .ret))))) (callF tys fns O (run tys fns O (n + 100))) (run tys fns O (n + 100)) ⟨[(2, .ptr 0 0), (4, bstr [1, 109, 1, d0, d1, d2, d3, d4, d5, d6, d7]), (5, i 0), (15, bt false)], z26⟩ (endK tys e6.fn (dataK k hp)) = k (.tup [fc0, i 5]) hp := by kernel_rfl
theorem rest7_8 (O : Orc) {R : Type} (n : Nat) (d0 d1 d2 d3 d4 d5 d6 d7 : UInt8) (hp : Hp) (k : PV → Hp → Option R) : evC tys e7 (.seq r7_4 (.seq r7_5 (.seq r7_6 (.seq (.seq r7_7 (.cond (.tmp 33) r7_8 .skip)) (.seq (.seq r7_9 (.cond (.tmp 41) (.seq r7_10 .ret) .skip)) (.seq r7_11 .ret)))))) (callF tys fns O (run tys fns O (n + 100))) (run tys fns O (n + 100)) ⟨[(2, .ptr 0 0), (4, bstr [1, 109, 1, d0, d1, d2, d3, d4, d5, d6, d7]), (5, i 0), (14, bt false)], z26⟩ (endK tys e7.fn (dataK k hp)) = k (.tup [fc0, i 5]) hp := by kernel_rfl
theorem rest6_9 (O : Orc) {R : Type} (n : Nat) (d0 d1 d2 d3 d4 d5 d6 d7 d8 : UInt8) (hp : Hp) (k : PV → Hp → Option R) : evC tys e6 (.seq r6_4 (.seq r6_5 (.seq (.seq r6_6 (.seq r6_7 (.cond (.tmp 26) (.seq r6_8 .ret) .skip))) (.seq (.seq r6_9 (.cond (.tmp 31) (.seq r6_10 .ret) .skip)) (.seq r6_11 .ret))))) (callF tys fns O (run tys fns O (n + 100))) (run tys fns O (n + 100)) ⟨[(2, .ptr 0 0), (4, bstr [1, 109, 1, d0, d1, d2, d3, d4, d5, d6, d7, d8]), (5, i 0), (15, bt false)], z26⟩ (endK tys e6.fn (dataK k hp)) = k (.tup [fc0, i 5]) hp := by kernel_rfl
theorem rest7_9 (O : Orc) {R : Type} (n : Nat) (d0 d1 d2 d3 d4 d5 d6 d7 d8 : UInt8) (hp : Hp) (k : PV → Hp → Option R) : evC tys e7 (.seq r7_4 (.seq r7_5 (.seq r7_6 (.seq (.seq r7_7 (.cond (.tmp 33) r7_8 .skip)) (.seq (.seq r7_9 (.cond (.tmp 41) (.seq r7_10 .ret) .skip)) (.seq r7_11 .ret)))))) (callF tys fns O (run tys fns O (n + 100))) (run tys fns O (n + 100)) ⟨[(2, .ptr 0 0), (4, bstr [1, 109, 1, d0, d1, d2, d3, d4, d5, d6, d7, d8]), (5, i 0), (14, bt false)], z26⟩ (endK tys e7.fn (dataK k hp)) = k (.tup [fc0, i 5]) hp := by kernel_rfl
theorem rest6_10 (O : Orc) {R : Type} (n : Nat) (d0 d1 d2 d3 d4 d5 d6 d7 d8 d9 : UInt8) (hp : Hp) (k : PV → Hp → Option R) : evC tys e6 (.seq r6_4 (.seq r6_5 (.seq (.seq r6_6 (.seq r6_7 (.cond (.tmp 26) (.seq r6_8 .ret) .skip))) (.seq (.seq r6_9 (.cond (.tmp 31) (.seq r6_10 .ret) .skip)) (.seq r6_11 .ret))))) (callF tys fns O (run tys fns O (n + 100))) (run tys fns O (n + 100)) ⟨[(2, .ptr 0 0), (4, bstr [1, 109, 1, d0, d1, d2, d3, d4, d5, d6, d7, d8, d9]), (5, i 0), (15, bt false)], z26⟩ (endK tys e6.fn (dataK k hp)) = k (.tup [fc0, i 5]) hp := by kernel_rfl
theorem rest7_10 (O : Orc) {R : Type} (n : Nat) (d0 d1 d2 d3 d4 d5 d6 d7 d8 d9 : UInt8) (hp : Hp) (k : PV → Hp → Option R) : evC tys e7 (.seq r7_4 (.seq r7_5 (.seq r7_6 (.seq (.seq r7_7 (.cond (.tmp 33) r7_8 .skip)) (.seq (.seq r7_9 (.cond (.tmp 41) (.seq r7_10 .ret) .skip)) (.seq r7_11 .ret)))))) (callF tys fns O (run tys fns O (n + 100))) (run tys fns O (n + 100)) ⟨[(2, .ptr 0 0), (4, bstr [1, 109, 1, d0, d1, d2, d3, d4, d5, d6, d7, d8, d9]), (5, i 0), (14, bt false)], z26⟩ (endK tys e7.fn (dataK k hp)) = k (.tup [fc0, i 5]) hp := by kernel_rfl
theorem rest6 (O : Orc) {R : Type} (n : Nat) (l : List UInt8) (h1 : 1 ≤ l.length) (h2 : l.length ≤ 10) (hp : Hp) (k : PV → Hp → Option R) : evC tys e6 (.seq r6_4 (.seq r6_5 (.seq (.seq r6_6 (.seq r6_7 (.cond (.tmp 26) (.seq r6_8 .ret) .skip))) (.seq (.seq r6_9 (.cond (.tmp 31) (.seq r6_10 .ret) .skip)) (.seq r6_11 .ret))))) (callF tys fns O (run tys fns O (n + 100))) (run tys fns O (n + 100)) ⟨[(2, .ptr 0 0), (4, bstr ([1, 109, 1] ++ l)), (5, i 0), (15, bt false)], z26⟩ (endK tys e6.fn (dataK k hp)) = k (.tup [fc0, i 5]) hp := by
  match l, h1, h2 with
  | [d0], _, _ => exact rest6_1 O n d0 hp k
  | [d0, d1], _, _ => exact rest6_2 O n d0 d1 hp k
  | [d0, d1, d2], _, _ => exact rest6_3 O n d0 d1 d2 hp k
  | [d0, d1, d2, d3], _, _ => exact rest6_4 O n d0 d1 d2 d3 hp k
  | [d0, d1, d2, d3, d4], _, _ => exact rest6_5 O n d0 d1 d2 d3 d4 hp k
  | [d0, d1, d2, d3, d4, d5], _, _ => exact rest6_6 O n d0 d1 d2 d3 d4 d5 hp k
  | [d0, d1, d2, d3, d4, d5, d6], _, _ => exact rest6_7 O n d0 d1 d2 d3 d4 d5 d6 hp k
  | [d0, d1, d2, d3, d4, d5, d6, d7], _, _ => exact rest6_8 O n d0 d1 d2 d3 d4 d5 d6 d7 hp k
  | [d0, d1, d2, d3, d4, d5, d6, d7, d8], _, _ => exact rest6_9 O n d0 d1 d2 d3 d4 d5 d6 d7 d8 hp k
  | [d0, d1, d2, d3, d4, d5, d6, d7, d8, d9], _, _ => exact rest6_10 O n d0 d1 d2 d3 d4 d5 d6 d7 d8 d9 hp k
  | _ :: _ :: _ :: _ :: _ :: _ :: _ :: _ :: _ :: _ :: _ :: _, _, h => exact absurd h (by simp)
theorem rest7 (O : Orc) {R : Type} (n : Nat) (l : List UInt8) (h1 : 1 ≤ l.length) (h2 : l.length ≤ 10) (hp : Hp) (k : PV → Hp → Option R) : evC tys e7 (.seq r7_4 (.seq r7_5 (.seq r7_6 (.seq (.seq r7_7 (.cond (.tmp 33) r7_8 .skip)) (.seq (.seq r7_9 (.cond (.tmp 41) (.seq r7_10 .ret) .skip)) (.seq r7_11 .ret)))))) (callF tys fns O (run tys fns O (n + 100))) (run tys fns O (n + 100)) ⟨[(2, .ptr 0 0), (4, bstr ([1, 109, 1] ++ l)), (5, i 0), (14, bt false)], z26⟩ (endK tys e7.fn (dataK k hp)) = k (.tup [fc0, i 5]) hp := by
  match l, h1, h2 with
  | [d0], _, _ => exact rest7_1 O n d0 hp k
  | [d0, d1], _, _ => exact rest7_2 O n d0 d1 hp k
  | [d0, d1, d2], _, _ => exact rest7_3 O n d0 d1 d2 hp k
  | [d0, d1, d2, d3], _, _ => exact rest7_4 O n d0 d1 d2 d3 hp k
  | [d0, d1, d2, d3, d4], _, _ => exact rest7_5 O n d0 d1 d2 d3 d4 hp k
  | [d0, d1, d2, d3, d4, d5], _, _ => exact rest7_6 O n d0 d1 d2 d3 d4 d5 hp k
  | [d0, d1, d2, d3, d4, d5, d6], _, _ => exact rest7_7 O n d0 d1 d2 d3 d4 d5 d6 hp k
  | [d0, d1, d2, d3, d4, d5, d6, d7], _, _ => exact rest7_8 O n d0 d1 d2 d3 d4 d5 d6 d7 hp k
  | [d0, d1, d2, d3, d4, d5, d6, d7, d8], _, _ => exact rest7_9 O n d0 d1 d2 d3 d4 d5 d6 d7 d8 hp k
  | [d0, d1, d2, d3, d4, d5, d6, d7, d8, d9], _, _ => exact rest7_10 O n d0 d1 d2 d3 d4 d5 d6 d7 d8 d9 hp k
  | _ :: _ :: _ :: _ :: _ :: _ :: _ :: _ :: _ :: _ :: _ :: _, _, h => exact absurd h (by simp)
end Go.Ev

/- Reports from bytes. -/
namespace Go.Ev
open Go.Proofs
theorem st2' {hp : Hp} {id a c : Nat} {b : List UInt8} (h : hp.get id = some (rd b a c)) (n : Nat) : primStore tys hp 27 (some (.ptr id 2)) (some (i n)) = some (.un, hp.put id (rd b a n)) :=
  store_cell (i := y27) rfl rfl h rfl rfl rfl
theorem ext0 (hp : Hp) (p : PV) (l : List PV) : primExtract hp 0 (some (.tup (p :: l))) = some (p, hp) := _root_.id rfl
theorem ext1 (hp : Hp) (p q : PV) (l : List PV) : primExtract hp 1 (some (.tup (p :: q :: l))) = some (q, hp) := _root_.id rfl
theorem al26 : primAlloc tys ⟨[], 0, []⟩ 26 = some (.ptr 0 0, z26) := by kernel_rfl
abbrev rp0 : PV := .agg [bt false, nl, nl, sb [], bt false, nl]
abbrev z32 : Hp := ⟨[(0, ⟨[bt false, nl, nl, sb [], bt false, nl], 6, false, 0⟩)], 1, []⟩
theorem al32 : primAlloc tys ⟨[], 0, []⟩ 32 = some (.ptr 0 0, z32) := by kernel_rfl
theorem bld46 (hp : Hp) (x : PV) (hx : cellOk x = true) : primBuild tys hp 46 (some [(0, x)]) = some (.agg [x, i 0, i 0], hp) := by
  have hc : pvCells x = some [x] := by cases x <;> first | rfl | (simp [cellOk] at hx)
  show aggOf hp (match placeS tys y46 0 with | none => none | some (off, size) => match pvCells x with | none => none | some xs => match Nat.beq xs.length size with | false => none | true => match putAt (y46.zero.map .v) off xs with | none => none | some cs => fillP (placeS tys y46) cs []) = _
  rw [hc]
  rfl
theorem bld52 (hp : Hp) (x : PV) (hx : cellOk x = true) : primBuild tys hp 52 (some [(0, x)]) = some (.agg [x, i 0, i 0], hp) := by
  have hc : pvCells x = some [x] := by cases x <;> first | rfl | (simp [cellOk] at hx)
  show aggOf hp (match placeS tys y52 0 with | none => none | some (off, size) => match pvCells x with | none => none | some xs => match Nat.beq xs.length size with | false => none | true => match putAt (y52.zero.map .v) off xs with | none => none | some cs => fillP (placeS tys y52) cs []) = _
  rw [hc]
  rfl
theorem box46 (hp : Hp) (b : List UInt8) : primBox tys hp 46 (some (.agg [bstr b, i 0, i 0])) = some (.ptr hp.next 0, hp.new (rd b 0 0)) := by kernel_rfl
theorem box52 (hp : Hp) (b : List UInt8) : primBox tys hp 52 (some (.agg [bstr b, i 0, i 0])) = some (.ptr hp.next 0, hp.new (rd b 0 0)) := by kernel_rfl

section
variable {R : Type}

theorem fail35 (O : Orc) (n e : Nat) {hp : Hp} {id a : Nat} {b : List UInt8} (h : hp.get id = some (rd b a 0)) (k : PV → Hp → Option R) :
    callF tys fns O (run tys fns O (n + 1)) 35 [.ptr id 0, i e] hp k = k .un (hp.put id (rd b a e)) := by
  have hz : ieqb (.ofNat 0) (.ofNat 0) = true := rfl
  rw [call_own (fi := e35) rfl rfl, b35, run_succ, c35_eq]
  simp only [ev_seq, r35_0a, nil_ptr, bP_some, fa46 _ _ _ (show 2 < 3 by decide), ld2 h, primBin_eq, bin_int, int_eql, hz, ret1_some', seqK_normal, ev_cond, opd_tmp, alget, Nat.reduceEqDiff, reduceIte, bB_true, r35_1a, st2' h, endK_normal, z35a, oneR_nil, bQ_some]

theorem truth21 (O : Orc) (n : Nat) {hp : Hp} {id a : Nat} {b : List UInt8} (h : hp.get id = some (rd b a 0)) (hc : b[a]? = some 1) (hl : b.length ≤ 1000000) (k : PV → Hp → Option R) :
    callF tys fns O (run tys fns O (n + 2)) 21 [.ptr id 0] hp k = k (bt true) (hp.put id (rd b (a + 1) 0)) := by
  have hn := next46 O (R := R) n h hc hl
  have e1 : (1 : UInt8).toNat = 1 := rfl
  rw [e1] at hn
  have h1 : ileb (.ofNat 1) (.ofNat 1) = true := rfl
  have h2 : ieqb (.ofNat 1) (.ofNat 1) = true := rfl
  rw [call_own (fi := e21) rfl rfl, b21, run_succ, c21_eq]
  simp only [ev_seq, r21_0a, r21_1a, hn, seqK_normal, r21_2a, primBin_eq, bin_int, int_gtr, h1, Bool.not_true, ret1_some', bP_some, ev_cond, opd_tmp, alget, Nat.reduceEqDiff, reduceIte, bB_false, ev_skip, r21_4a, r21_4b, int_eql, h2, ev_ret, seqK_ret, endK_ret, z21a, consO_some, oneR_one, bQ_some]

theorem number48 (O : Orc) {b : List UInt8} (hl : b.length ≤ 1000000) {id a : Nat} {x : Int} (hx : -9223372036854775808 ≤ x ∧ x < 9223372036854775808) (n : Nat) (hp : Hp) (ha : a ≤ b.length) (hd : b.drop a = enc x) (hg : hp.get id = some (rd b a 0)) (k : PV → Hp → Option R) :
    callF tys fns O (run tys fns O (n + 12)) 48 [.ptr id 0] hp k = k (.v (.int .i64 x)) (hp.put id (rd b b.length 0)) := by
  have hi := int78 O (R := R) hl hx n hp ha hd hg
  rw [call_own (fi := e48) rfl rfl, b48, show n + 12 = (n + 11) + 1 by omega, run_succ, c48_eq]
  simp only [ev_seq, r48_0a, r48_1a, hi, seqK_normal, ev_ret, seqK_ret, endK_ret, z48a, consO_some, oneR_one, bQ_some]

theorem length47_pos (O : Orc) {b : List UInt8} (hl : b.length ≤ 1000000) {id a : Nat} {x : Int} (hx : -9223372036854775808 ≤ x ∧ x < 9223372036854775808) (hs : ileb (.ofNat 0) x = true) (n : Nat) (hp : Hp) (ha : a ≤ b.length) (hd : b.drop a = enc x) (hg : hp.get id = some (rd b a 0)) (k : PV → Hp → Option R) :
    callF tys fns O (run tys fns O (n + 20)) 47 [.ptr id 0] hp k = k (.v (.int .i64 x)) (hp.put id (rd b b.length 0)) := by
  have hi := number48 O (R := R) hl hx (n + 7) hp ha hd hg
  have hz : ieqb (.ofNat 0) (.ofNat 0) = true := rfl
  have hz5 : ieqb (.ofNat 5) (.ofNat 0) = false := rfl
  have hg1 := get_put hp id (rd b b.length 0) _ hg
  have hf := fail35 O (R := R) (n + 18) 5 hg1
  have hg5 := get_put hp id (rd b b.length 5) _ hg
  rw [call_own (fi := e47) rfl rfl, b47, show n + 20 = (n + 19) + 1 by omega, run_succ, c47_eq]
  rw [show n + 7 + 12 = n + 19 by omega] at hi
  rw [show n + 18 + 1 = n + 19 by omega] at hf
  simp only [ev_seq, r47_0a, r47_1a, hi, seqK_normal, r47_2a, primBin_eq, bin_int, int_lss, hs, Bool.not_true, Bool.not_false, ret1_some', bP_some, ev_cond, opd_tmp, alget, Nat.reduceEqDiff, reduceIte, bB_false, bB_true, ev_skip, r47_3a, hf, put_put, r47_4a, r47_4b, nil_ptr, fa46 _ _ _ (show 2 < 3 by decide), ld2 hg1, ld2 hg5, int_neq, hz, hz5, r47_5a, r47_6a, ev_ret, seqK_ret, endK_ret, z47a, consO_some, oneR_one, bQ_some]

theorem length47_neg (O : Orc) {b : List UInt8} (hl : b.length ≤ 1000000) {id a : Nat} {x : Int} (hx : -9223372036854775808 ≤ x ∧ x < 9223372036854775808) (hs : ileb (.ofNat 0) x = false) (n : Nat) (hp : Hp) (ha : a ≤ b.length) (hd : b.drop a = enc x) (hg : hp.get id = some (rd b a 0)) (k : PV → Hp → Option R) :
    callF tys fns O (run tys fns O (n + 20)) 47 [.ptr id 0] hp k = k (i 0) (hp.put id (rd b b.length 5)) := by
  have hi := number48 O (R := R) hl hx (n + 7) hp ha hd hg
  have hz : ieqb (.ofNat 0) (.ofNat 0) = true := rfl
  have hz5 : ieqb (.ofNat 5) (.ofNat 0) = false := rfl
  have hg1 := get_put hp id (rd b b.length 0) _ hg
  have hf := fail35 O (R := R) (n + 18) 5 hg1
  have hg5 := get_put hp id (rd b b.length 5) _ hg
  rw [call_own (fi := e47) rfl rfl, b47, show n + 20 = (n + 19) + 1 by omega, run_succ, c47_eq]
  rw [show n + 7 + 12 = n + 19 by omega] at hi
  rw [show n + 18 + 1 = n + 19 by omega] at hf
  simp only [ev_seq, r47_0a, r47_1a, hi, seqK_normal, r47_2a, primBin_eq, bin_int, int_lss, hs, Bool.not_true, Bool.not_false, ret1_some', bP_some, ev_cond, opd_tmp, alget, Nat.reduceEqDiff, reduceIte, bB_false, bB_true, ev_skip, r47_3a, hf, put_put, r47_4a, r47_4b, nil_ptr, fa46 _ _ _ (show 2 < 3 by decide), ld2 hg1, ld2 hg5, int_neq, hz, hz5, r47_5a, r47_6a, ev_ret, seqK_ret, endK_ret, z47a, consO_some, oneR_one, bQ_some]

theorem fail41 (O : Orc) (n e : Nat) {hp : Hp} {id a : Nat} {b : List UInt8} (h : hp.get id = some (rd b a 0)) (k : PV → Hp → Option R) :
    callF tys fns O (run tys fns O (n + 1)) 41 [.ptr id 0, i e] hp k = k .un (hp.put id (rd b a e)) := by
  have hz : ieqb (.ofNat 0) (.ofNat 0) = true := rfl
  rw [call_own (fi := e41) rfl rfl, b41, run_succ, c41_eq]
  simp only [ev_seq, r41_0a, nil_ptr, bP_some, fa52 _ _ _ (show 2 < 3 by decide), ld2 h, primBin_eq, bin_int, int_eql, hz, ret1_some', seqK_normal, ev_cond, opd_tmp, alget, Nat.reduceEqDiff, reduceIte, bB_true, r41_1a, st2' h, endK_normal, z41a, oneR_nil, bQ_some]

theorem truth26 (O : Orc) (n : Nat) {hp : Hp} {id a : Nat} {b : List UInt8} (h : hp.get id = some (rd b a 0)) (hc : b[a]? = some 1) (hl : b.length ≤ 1000000) (k : PV → Hp → Option R) :
    callF tys fns O (run tys fns O (n + 2)) 26 [.ptr id 0] hp k = k (bt true) (hp.put id (rd b (a + 1) 0)) := by
  have hn := one50 O (R := R) n h hc hl
  have e1 : (1 : UInt8).toNat = 1 := rfl
  rw [e1] at hn
  have h1 : ileb (.ofNat 1) (.ofNat 1) = true := rfl
  have h2 : ieqb (.ofNat 1) (.ofNat 1) = true := rfl
  rw [call_own (fi := e26) rfl rfl, b26, run_succ, c26_eq]
  simp only [ev_seq, r26_0a, r26_1a, hn, seqK_normal, r26_2a, primBin_eq, bin_int, int_gtr, h1, Bool.not_true, ret1_some', bP_some, ev_cond, opd_tmp, alget, Nat.reduceEqDiff, reduceIte, bB_false, ev_skip, r26_4a, r26_4b, int_eql, h2, ev_ret, seqK_ret, endK_ret, z26a, consO_some, oneR_one, bQ_some]

theorem length28_pos (O : Orc) {b : List UInt8} (hl : b.length ≤ 1000000) {id a : Nat} {x : Int} (hx : -9223372036854775808 ≤ x ∧ x < 9223372036854775808) (hs : ileb (.ofNat 0) x = true) (n : Nat) (hp : Hp) (ha : a ≤ b.length) (hd : b.drop a = enc x) (hg : hp.get id = some (rd b a 0)) (k : PV → Hp → Option R) :
    callF tys fns O (run tys fns O (n + 20)) 28 [.ptr id 0] hp k = k (.v (.int .i64 x)) (hp.put id (rd b b.length 0)) := by
  have hi := int29 O (R := R) hl hx (n + 8) hp ha hd hg
  have hz : ieqb (.ofNat 0) (.ofNat 0) = true := rfl
  have hz5 : ieqb (.ofNat 5) (.ofNat 0) = false := rfl
  have hg1 := get_put hp id (rd b b.length 0) _ hg
  have hf := fail41 O (R := R) (n + 18) 5 hg1
  have hg5 := get_put hp id (rd b b.length 5) _ hg
  rw [call_own (fi := e28) rfl rfl, b28, show n + 20 = (n + 19) + 1 by omega, run_succ, c28_eq]
  rw [show n + 8 + 11 = n + 19 by omega] at hi
  rw [show n + 18 + 1 = n + 19 by omega] at hf
  simp only [ev_seq, r28_0a, r28_1a, hi, seqK_normal, r28_2a, primBin_eq, bin_int, int_lss, hs, Bool.not_true, Bool.not_false, ret1_some', bP_some, ev_cond, opd_tmp, alget, Nat.reduceEqDiff, reduceIte, bB_false, bB_true, ev_skip, r28_3a, hf, put_put, r28_4a, r28_4b, nil_ptr, fa52 _ _ _ (show 2 < 3 by decide), ld2 hg1, ld2 hg5, int_neq, hz, hz5, r28_5a, r28_6a, ev_ret, seqK_ret, endK_ret, z28a, consO_some, oneR_one, bQ_some]

theorem length28_neg (O : Orc) {b : List UInt8} (hl : b.length ≤ 1000000) {id a : Nat} {x : Int} (hx : -9223372036854775808 ≤ x ∧ x < 9223372036854775808) (hs : ileb (.ofNat 0) x = false) (n : Nat) (hp : Hp) (ha : a ≤ b.length) (hd : b.drop a = enc x) (hg : hp.get id = some (rd b a 0)) (k : PV → Hp → Option R) :
    callF tys fns O (run tys fns O (n + 20)) 28 [.ptr id 0] hp k = k (i 0) (hp.put id (rd b b.length 5)) := by
  have hi := int29 O (R := R) hl hx (n + 8) hp ha hd hg
  have hz : ieqb (.ofNat 0) (.ofNat 0) = true := rfl
  have hz5 : ieqb (.ofNat 5) (.ofNat 0) = false := rfl
  have hg1 := get_put hp id (rd b b.length 0) _ hg
  have hf := fail41 O (R := R) (n + 18) 5 hg1
  have hg5 := get_put hp id (rd b b.length 5) _ hg
  rw [call_own (fi := e28) rfl rfl, b28, show n + 20 = (n + 19) + 1 by omega, run_succ, c28_eq]
  rw [show n + 8 + 11 = n + 19 by omega] at hi
  rw [show n + 18 + 1 = n + 19 by omega] at hf
  simp only [ev_seq, r28_0a, r28_1a, hi, seqK_normal, r28_2a, primBin_eq, bin_int, int_lss, hs, Bool.not_true, Bool.not_false, ret1_some', bP_some, ev_cond, opd_tmp, alget, Nat.reduceEqDiff, reduceIte, bB_false, bB_true, ev_skip, r28_3a, hf, put_put, r28_4a, r28_4b, nil_ptr, fa52 _ _ _ (show 2 < 3 by decide), ld2 hg1, ld2 hg5, int_neq, hz, hz5, r28_5a, r28_6a, ev_ret, seqK_ret, endK_ret, z28a, consO_some, oneR_one, bQ_some]
end
end Go.Ev
