/- Reports from bytes: what follows once the number of signatures is read. -/
import Derived.Test.YtaedechkfmjcnaaGreatDoorEvPd
set_option linter.all false
namespace Go.Ev
open Go.Proofs
abbrev H8 (b : List UInt8) (a c : Nat) : Hp := ⟨[(1, rd b a c), (0, ⟨[bt false, nl, nl, sb [], bt false, nl], 6, false, 0⟩)], 2, []⟩
abbrev H9 (b : List UInt8) (a c : Nat) : Hp := ⟨[(2, ⟨[bt true, nl, nl, sb [], bt false, nl], 6, false, 0⟩), (1, rd b a c), (0, ⟨[bt false, nl, nl, sb [], bt false, nl], 6, false, 0⟩)], 3, []⟩
section
variable {R : Type}
theorem rest8z_1 (O : Orc) (n : Nat) (d0 : UInt8) (hp : Hp) (k : PV → Hp → Option R) :
    evC tys e22 (.seq (.block 0 l22_0) (.seq r22_6 .ret)) (callF tys fns O (run tys fns O (n + 100))) (run tys fns O (n + 100)) ⟨[(0, .ptr 1 0), (1, .bnd 23 [.ptr 1 0]), (5, nl), (6, i 0)], H8 [1, d0] 2 0⟩ (endK tys e22.fn (fun y5 g5 =>
  callF tys fns O (run tys fns O (n + 101)) 24 [.ptr 1 0, (.bnd 25 [.ptr 1 0])] g5 fun y9 g9 =>
  callF tys fns O (run tys fns O (n + 101)) 14 [.ptr 1 0] g9 fun y11 g11 =>
  bP (primBuild tys g11 32 (some [(0, bt true), (1, y5), (2, y9), (3, y11)])) fun y12 g12 =>
  bP (primAlloc tys g12 32) fun y13 g13 =>
  bP (primStore tys g13 32 (some y13) (some y12)) fun y14 g14 =>
  (seqK (fun st' => evC tys e8 (.seq (.seq r8_6 (.seq r8_7 (.cond (.tmp 37) (.seq r8_8 .ret) .skip))) (.seq r8_9 .ret)) (callF tys fns O (run tys fns O (n + 101))) (run tys fns O (n + 101)) st' (endK tys e8.fn (dataK k hp))) (endK tys e8.fn (dataK k hp))) .normal ⟨[(2, .ptr 0 0), (6, .ptr 1 0), (7, y13)], g14⟩)) = k (.tup [rp0, i 26]) hp := by kernel_rfl
theorem rest8z_2 (O : Orc) (n : Nat) (d0 d1 : UInt8) (hp : Hp) (k : PV → Hp → Option R) :
    evC tys e22 (.seq (.block 0 l22_0) (.seq r22_6 .ret)) (callF tys fns O (run tys fns O (n + 100))) (run tys fns O (n + 100)) ⟨[(0, .ptr 1 0), (1, .bnd 23 [.ptr 1 0]), (5, nl), (6, i 0)], H8 [1, d0, d1] 3 0⟩ (endK tys e22.fn (fun y5 g5 =>
  callF tys fns O (run tys fns O (n + 101)) 24 [.ptr 1 0, (.bnd 25 [.ptr 1 0])] g5 fun y9 g9 =>
  callF tys fns O (run tys fns O (n + 101)) 14 [.ptr 1 0] g9 fun y11 g11 =>
  bP (primBuild tys g11 32 (some [(0, bt true), (1, y5), (2, y9), (3, y11)])) fun y12 g12 =>
  bP (primAlloc tys g12 32) fun y13 g13 =>
  bP (primStore tys g13 32 (some y13) (some y12)) fun y14 g14 =>
  (seqK (fun st' => evC tys e8 (.seq (.seq r8_6 (.seq r8_7 (.cond (.tmp 37) (.seq r8_8 .ret) .skip))) (.seq r8_9 .ret)) (callF tys fns O (run tys fns O (n + 101))) (run tys fns O (n + 101)) st' (endK tys e8.fn (dataK k hp))) (endK tys e8.fn (dataK k hp))) .normal ⟨[(2, .ptr 0 0), (6, .ptr 1 0), (7, y13)], g14⟩)) = k (.tup [rp0, i 26]) hp := by kernel_rfl
theorem rest8z_3 (O : Orc) (n : Nat) (d0 d1 d2 : UInt8) (hp : Hp) (k : PV → Hp → Option R) :
    evC tys e22 (.seq (.block 0 l22_0) (.seq r22_6 .ret)) (callF tys fns O (run tys fns O (n + 100))) (run tys fns O (n + 100)) ⟨[(0, .ptr 1 0), (1, .bnd 23 [.ptr 1 0]), (5, nl), (6, i 0)], H8 [1, d0, d1, d2] 4 0⟩ (endK tys e22.fn (fun y5 g5 =>
  callF tys fns O (run tys fns O (n + 101)) 24 [.ptr 1 0, (.bnd 25 [.ptr 1 0])] g5 fun y9 g9 =>
  callF tys fns O (run tys fns O (n + 101)) 14 [.ptr 1 0] g9 fun y11 g11 =>
  bP (primBuild tys g11 32 (some [(0, bt true), (1, y5), (2, y9), (3, y11)])) fun y12 g12 =>
  bP (primAlloc tys g12 32) fun y13 g13 =>
  bP (primStore tys g13 32 (some y13) (some y12)) fun y14 g14 =>
  (seqK (fun st' => evC tys e8 (.seq (.seq r8_6 (.seq r8_7 (.cond (.tmp 37) (.seq r8_8 .ret) .skip))) (.seq r8_9 .ret)) (callF tys fns O (run tys fns O (n + 101))) (run tys fns O (n + 101)) st' (endK tys e8.fn (dataK k hp))) (endK tys e8.fn (dataK k hp))) .normal ⟨[(2, .ptr 0 0), (6, .ptr 1 0), (7, y13)], g14⟩)) = k (.tup [rp0, i 26]) hp := by kernel_rfl
theorem rest8z_4 (O : Orc) (n : Nat) (d0 d1 d2 d3 : UInt8) (hp : Hp) (k : PV → Hp → Option R) :
    evC tys e22 (.seq (.block 0 l22_0) (.seq r22_6 .ret)) (callF tys fns O (run tys fns O (n + 100))) (run tys fns O (n + 100)) ⟨[(0, .ptr 1 0), (1, .bnd 23 [.ptr 1 0]), (5, nl), (6, i 0)], H8 [1, d0, d1, d2, d3] 5 0⟩ (endK tys e22.fn (fun y5 g5 =>
  callF tys fns O (run tys fns O (n + 101)) 24 [.ptr 1 0, (.bnd 25 [.ptr 1 0])] g5 fun y9 g9 =>
  callF tys fns O (run tys fns O (n + 101)) 14 [.ptr 1 0] g9 fun y11 g11 =>
  bP (primBuild tys g11 32 (some [(0, bt true), (1, y5), (2, y9), (3, y11)])) fun y12 g12 =>
  bP (primAlloc tys g12 32) fun y13 g13 =>
  bP (primStore tys g13 32 (some y13) (some y12)) fun y14 g14 =>
  (seqK (fun st' => evC tys e8 (.seq (.seq r8_6 (.seq r8_7 (.cond (.tmp 37) (.seq r8_8 .ret) .skip))) (.seq r8_9 .ret)) (callF tys fns O (run tys fns O (n + 101))) (run tys fns O (n + 101)) st' (endK tys e8.fn (dataK k hp))) (endK tys e8.fn (dataK k hp))) .normal ⟨[(2, .ptr 0 0), (6, .ptr 1 0), (7, y13)], g14⟩)) = k (.tup [rp0, i 26]) hp := by kernel_rfl
theorem rest8z_5 (O : Orc) (n : Nat) (d0 d1 d2 d3 d4 : UInt8) (hp : Hp) (k : PV → Hp → Option R) :
    evC tys e22 (.seq (.block 0 l22_0) (.seq r22_6 .ret)) (callF tys fns O (run tys fns O (n + 100))) (run tys fns O (n + 100)) ⟨[(0, .ptr 1 0), (1, .bnd 23 [.ptr 1 0]), (5, nl), (6, i 0)], H8 [1, d0, d1, d2, d3, d4] 6 0⟩ (endK tys e22.fn (fun y5 g5 =>
  callF tys fns O (run tys fns O (n + 101)) 24 [.ptr 1 0, (.bnd 25 [.ptr 1 0])] g5 fun y9 g9 =>
  callF tys fns O (run tys fns O (n + 101)) 14 [.ptr 1 0] g9 fun y11 g11 =>
  bP (primBuild tys g11 32 (some [(0, bt true), (1, y5), (2, y9), (3, y11)])) fun y12 g12 =>
  bP (primAlloc tys g12 32) fun y13 g13 =>
  bP (primStore tys g13 32 (some y13) (some y12)) fun y14 g14 =>
  (seqK (fun st' => evC tys e8 (.seq (.seq r8_6 (.seq r8_7 (.cond (.tmp 37) (.seq r8_8 .ret) .skip))) (.seq r8_9 .ret)) (callF tys fns O (run tys fns O (n + 101))) (run tys fns O (n + 101)) st' (endK tys e8.fn (dataK k hp))) (endK tys e8.fn (dataK k hp))) .normal ⟨[(2, .ptr 0 0), (6, .ptr 1 0), (7, y13)], g14⟩)) = k (.tup [rp0, i 26]) hp := by kernel_rfl
theorem rest8z_6 (O : Orc) (n : Nat) (d0 d1 d2 d3 d4 d5 : UInt8) (hp : Hp) (k : PV → Hp → Option R) :
    evC tys e22 (.seq (.block 0 l22_0) (.seq r22_6 .ret)) (callF tys fns O (run tys fns O (n + 100))) (run tys fns O (n + 100)) ⟨[(0, .ptr 1 0), (1, .bnd 23 [.ptr 1 0]), (5, nl), (6, i 0)], H8 [1, d0, d1, d2, d3, d4, d5] 7 0⟩ (endK tys e22.fn (fun y5 g5 =>
  callF tys fns O (run tys fns O (n + 101)) 24 [.ptr 1 0, (.bnd 25 [.ptr 1 0])] g5 fun y9 g9 =>
  callF tys fns O (run tys fns O (n + 101)) 14 [.ptr 1 0] g9 fun y11 g11 =>
  bP (primBuild tys g11 32 (some [(0, bt true), (1, y5), (2, y9), (3, y11)])) fun y12 g12 =>
  bP (primAlloc tys g12 32) fun y13 g13 =>
  bP (primStore tys g13 32 (some y13) (some y12)) fun y14 g14 =>
  (seqK (fun st' => evC tys e8 (.seq (.seq r8_6 (.seq r8_7 (.cond (.tmp 37) (.seq r8_8 .ret) .skip))) (.seq r8_9 .ret)) (callF tys fns O (run tys fns O (n + 101))) (run tys fns O (n + 101)) st' (endK tys e8.fn (dataK k hp))) (endK tys e8.fn (dataK k hp))) .normal ⟨[(2, .ptr 0 0), (6, .ptr 1 0), (7, y13)], g14⟩)) = k (.tup [rp0, i 26]) hp := by kernel_rfl
theorem rest8z_7 (O : Orc) (n : Nat) (d0 d1 d2 d3 d4 d5 d6 : UInt8) (hp : Hp) (k : PV → Hp → Option R) :
    evC tys e22 (.seq (.block 0 l22_0) (.seq r22_6 .ret)) (callF tys fns O (run tys fns O (n + 100))) (run tys fns O (n + 100)) ⟨[(0, .ptr 1 0), (1, .bnd 23 [.ptr 1 0]), (5, nl), (6, i 0)], H8 [1, d0, d1, d2, d3, d4, d5, d6] 8 0⟩ (endK tys e22.fn (fun y5 g5 =>
  callF tys fns O (run tys fns O (n + 101)) 24 [.ptr 1 0, (.bnd 25 [.ptr 1 0])] g5 fun y9 g9 =>
  callF tys fns O (run tys fns O (n + 101)) 14 [.ptr 1 0] g9 fun y11 g11 =>
  bP (primBuild tys g11 32 (some [(0, bt true), (1, y5), (2, y9), (3, y11)])) fun y12 g12 =>
  bP (primAlloc tys g12 32) fun y13 g13 =>
  bP (primStore tys g13 32 (some y13) (some y12)) fun y14 g14 =>
  (seqK (fun st' => evC tys e8 (.seq (.seq r8_6 (.seq r8_7 (.cond (.tmp 37) (.seq r8_8 .ret) .skip))) (.seq r8_9 .ret)) (callF tys fns O (run tys fns O (n + 101))) (run tys fns O (n + 101)) st' (endK tys e8.fn (dataK k hp))) (endK tys e8.fn (dataK k hp))) .normal ⟨[(2, .ptr 0 0), (6, .ptr 1 0), (7, y13)], g14⟩)) = k (.tup [rp0, i 26]) hp := by kernel_rfl
theorem rest8z_8 (O : Orc) (n : Nat) (d0 d1 d2 d3 d4 d5 d6 d7 : UInt8) (hp : Hp) (k : PV → Hp → Option R) :
    evC tys e22 (.seq (.block 0 l22_0) (.seq r22_6 .ret)) (callF tys fns O (run tys fns O (n + 100))) (run tys fns O (n + 100)) ⟨[(0, .ptr 1 0), (1, .bnd 23 [.ptr 1 0]), (5, nl), (6, i 0)], H8 [1, d0, d1, d2, d3, d4, d5, d6, d7] 9 0⟩ (endK tys e22.fn (fun y5 g5 =>
  callF tys fns O (run tys fns O (n + 101)) 24 [.ptr 1 0, (.bnd 25 [.ptr 1 0])] g5 fun y9 g9 =>
  callF tys fns O (run tys fns O (n + 101)) 14 [.ptr 1 0] g9 fun y11 g11 =>
  bP (primBuild tys g11 32 (some [(0, bt true), (1, y5), (2, y9), (3, y11)])) fun y12 g12 =>
  bP (primAlloc tys g12 32) fun y13 g13 =>
  bP (primStore tys g13 32 (some y13) (some y12)) fun y14 g14 =>
  (seqK (fun st' => evC tys e8 (.seq (.seq r8_6 (.seq r8_7 (.cond (.tmp 37) (.seq r8_8 .ret) .skip))) (.seq r8_9 .ret)) (callF tys fns O (run tys fns O (n + 101))) (run tys fns O (n + 101)) st' (endK tys e8.fn (dataK k hp))) (endK tys e8.fn (dataK k hp))) .normal ⟨[(2, .ptr 0 0), (6, .ptr 1 0), (7, y13)], g14⟩)) = k (.tup [rp0, i 26]) hp := by kernel_rfl
theorem rest8z_9 (O : Orc) (n : Nat) (d0 d1 d2 d3 d4 d5 d6 d7 d8 : UInt8) (hp : Hp) (k : PV → Hp → Option R) :
    evC tys e22 (.seq (.block 0 l22_0) (.seq r22_6 .ret)) (callF tys fns O (run tys fns O (n + 100))) (run tys fns O (n + 100)) ⟨[(0, .ptr 1 0), (1, .bnd 23 [.ptr 1 0]), (5, nl), (6, i 0)], H8 [1, d0, d1, d2, d3, d4, d5, d6, d7, d8] 10 0⟩ (endK tys e22.fn (fun y5 g5 =>
  callF tys fns O (run tys fns O (n + 101)) 24 [.ptr 1 0, (.bnd 25 [.ptr 1 0])] g5 fun y9 g9 =>
  callF tys fns O (run tys fns O (n + 101)) 14 [.ptr 1 0] g9 fun y11 g11 =>
  bP (primBuild tys g11 32 (some [(0, bt true), (1, y5), (2, y9), (3, y11)])) fun y12 g12 =>
  bP (primAlloc tys g12 32) fun y13 g13 =>
  bP (primStore tys g13 32 (some y13) (some y12)) fun y14 g14 =>
  (seqK (fun st' => evC tys e8 (.seq (.seq r8_6 (.seq r8_7 (.cond (.tmp 37) (.seq r8_8 .ret) .skip))) (.seq r8_9 .ret)) (callF tys fns O (run tys fns O (n + 101))) (run tys fns O (n + 101)) st' (endK tys e8.fn (dataK k hp))) (endK tys e8.fn (dataK k hp))) .normal ⟨[(2, .ptr 0 0), (6, .ptr 1 0), (7, y13)], g14⟩)) = k (.tup [rp0, i 26]) hp := by kernel_rfl
theorem rest8z_10 (O : Orc) (n : Nat) (d0 d1 d2 d3 d4 d5 d6 d7 d8 d9 : UInt8) (hp : Hp) (k : PV → Hp → Option R) :
    evC tys e22 (.seq (.block 0 l22_0) (.seq r22_6 .ret)) (callF tys fns O (run tys fns O (n + 100))) (run tys fns O (n + 100)) ⟨[(0, .ptr 1 0), (1, .bnd 23 [.ptr 1 0]), (5, nl), (6, i 0)], H8 [1, d0, d1, d2, d3, d4, d5, d6, d7, d8, d9] 11 0⟩ (endK tys e22.fn (fun y5 g5 =>
  callF tys fns O (run tys fns O (n + 101)) 24 [.ptr 1 0, (.bnd 25 [.ptr 1 0])] g5 fun y9 g9 =>
  callF tys fns O (run tys fns O (n + 101)) 14 [.ptr 1 0] g9 fun y11 g11 =>
  bP (primBuild tys g11 32 (some [(0, bt true), (1, y5), (2, y9), (3, y11)])) fun y12 g12 =>
  bP (primAlloc tys g12 32) fun y13 g13 =>
  bP (primStore tys g13 32 (some y13) (some y12)) fun y14 g14 =>
  (seqK (fun st' => evC tys e8 (.seq (.seq r8_6 (.seq r8_7 (.cond (.tmp 37) (.seq r8_8 .ret) .skip))) (.seq r8_9 .ret)) (callF tys fns O (run tys fns O (n + 101))) (run tys fns O (n + 101)) st' (endK tys e8.fn (dataK k hp))) (endK tys e8.fn (dataK k hp))) .normal ⟨[(2, .ptr 0 0), (6, .ptr 1 0), (7, y13)], g14⟩)) = k (.tup [rp0, i 26]) hp := by kernel_rfl
theorem rest8z (O : Orc) (n : Nat) (l : List UInt8) (h1 : 1 ≤ l.length) (h2 : l.length ≤ 10) (hp : Hp) (k : PV → Hp → Option R) :
    evC tys e22 (.seq (.block 0 l22_0) (.seq r22_6 .ret)) (callF tys fns O (run tys fns O (n + 100))) (run tys fns O (n + 100)) ⟨[(0, .ptr 1 0), (1, .bnd 23 [.ptr 1 0]), (5, nl), (6, i 0)], H8 (1 :: l) (1 :: l).length 0⟩ (endK tys e22.fn (fun y5 g5 =>
  callF tys fns O (run tys fns O (n + 101)) 24 [.ptr 1 0, (.bnd 25 [.ptr 1 0])] g5 fun y9 g9 =>
  callF tys fns O (run tys fns O (n + 101)) 14 [.ptr 1 0] g9 fun y11 g11 =>
  bP (primBuild tys g11 32 (some [(0, bt true), (1, y5), (2, y9), (3, y11)])) fun y12 g12 =>
  bP (primAlloc tys g12 32) fun y13 g13 =>
  bP (primStore tys g13 32 (some y13) (some y12)) fun y14 g14 =>
  (seqK (fun st' => evC tys e8 (.seq (.seq r8_6 (.seq r8_7 (.cond (.tmp 37) (.seq r8_8 .ret) .skip))) (.seq r8_9 .ret)) (callF tys fns O (run tys fns O (n + 101))) (run tys fns O (n + 101)) st' (endK tys e8.fn (dataK k hp))) (endK tys e8.fn (dataK k hp))) .normal ⟨[(2, .ptr 0 0), (6, .ptr 1 0), (7, y13)], g14⟩)) = k (.tup [rp0, i 26]) hp := by
  match l, h1, h2 with
  | [d0], _, _ => exact rest8z_1 O n d0 hp k
  | [d0, d1], _, _ => exact rest8z_2 O n d0 d1 hp k
  | [d0, d1, d2], _, _ => exact rest8z_3 O n d0 d1 d2 hp k
  | [d0, d1, d2, d3], _, _ => exact rest8z_4 O n d0 d1 d2 d3 hp k
  | [d0, d1, d2, d3, d4], _, _ => exact rest8z_5 O n d0 d1 d2 d3 d4 hp k
  | [d0, d1, d2, d3, d4, d5], _, _ => exact rest8z_6 O n d0 d1 d2 d3 d4 d5 hp k
  | [d0, d1, d2, d3, d4, d5, d6], _, _ => exact rest8z_7 O n d0 d1 d2 d3 d4 d5 d6 hp k
  | [d0, d1, d2, d3, d4, d5, d6, d7], _, _ => exact rest8z_8 O n d0 d1 d2 d3 d4 d5 d6 d7 hp k
  | [d0, d1, d2, d3, d4, d5, d6, d7, d8], _, _ => exact rest8z_9 O n d0 d1 d2 d3 d4 d5 d6 d7 d8 hp k
  | [d0, d1, d2, d3, d4, d5, d6, d7, d8, d9], _, _ => exact rest8z_10 O n d0 d1 d2 d3 d4 d5 d6 d7 d8 d9 hp k
  | _ :: _ :: _ :: _ :: _ :: _ :: _ :: _ :: _ :: _ :: _ :: _, _, h => exact absurd h (by simp)
theorem rest8g_1 (O : Orc) (n : Nat) (d0 : UInt8) (hp : Hp) (k : PV → Hp → Option R) :
    evC tys e22 (.seq (.block 0 l22_0) (.seq r22_6 .ret)) (callF tys fns O (run tys fns O (n + 100))) (run tys fns O (n + 100)) ⟨[(0, .ptr 1 0), (1, .bnd 23 [.ptr 1 0]), (5, nl), (6, i 0)], H8 [1, d0] 2 5⟩ (endK tys e22.fn (fun y5 g5 =>
  callF tys fns O (run tys fns O (n + 101)) 24 [.ptr 1 0, (.bnd 25 [.ptr 1 0])] g5 fun y9 g9 =>
  callF tys fns O (run tys fns O (n + 101)) 14 [.ptr 1 0] g9 fun y11 g11 =>
  bP (primBuild tys g11 32 (some [(0, bt true), (1, y5), (2, y9), (3, y11)])) fun y12 g12 =>
  bP (primAlloc tys g12 32) fun y13 g13 =>
  bP (primStore tys g13 32 (some y13) (some y12)) fun y14 g14 =>
  (seqK (fun st' => evC tys e8 (.seq (.seq r8_6 (.seq r8_7 (.cond (.tmp 37) (.seq r8_8 .ret) .skip))) (.seq r8_9 .ret)) (callF tys fns O (run tys fns O (n + 101))) (run tys fns O (n + 101)) st' (endK tys e8.fn (dataK k hp))) (endK tys e8.fn (dataK k hp))) .normal ⟨[(2, .ptr 0 0), (6, .ptr 1 0), (7, y13)], g14⟩)) = k (.tup [rp0, i 5]) hp := by kernel_rfl
theorem rest8g_2 (O : Orc) (n : Nat) (d0 d1 : UInt8) (hp : Hp) (k : PV → Hp → Option R) :
    evC tys e22 (.seq (.block 0 l22_0) (.seq r22_6 .ret)) (callF tys fns O (run tys fns O (n + 100))) (run tys fns O (n + 100)) ⟨[(0, .ptr 1 0), (1, .bnd 23 [.ptr 1 0]), (5, nl), (6, i 0)], H8 [1, d0, d1] 3 5⟩ (endK tys e22.fn (fun y5 g5 =>
  callF tys fns O (run tys fns O (n + 101)) 24 [.ptr 1 0, (.bnd 25 [.ptr 1 0])] g5 fun y9 g9 =>
  callF tys fns O (run tys fns O (n + 101)) 14 [.ptr 1 0] g9 fun y11 g11 =>
  bP (primBuild tys g11 32 (some [(0, bt true), (1, y5), (2, y9), (3, y11)])) fun y12 g12 =>
  bP (primAlloc tys g12 32) fun y13 g13 =>
  bP (primStore tys g13 32 (some y13) (some y12)) fun y14 g14 =>
  (seqK (fun st' => evC tys e8 (.seq (.seq r8_6 (.seq r8_7 (.cond (.tmp 37) (.seq r8_8 .ret) .skip))) (.seq r8_9 .ret)) (callF tys fns O (run tys fns O (n + 101))) (run tys fns O (n + 101)) st' (endK tys e8.fn (dataK k hp))) (endK tys e8.fn (dataK k hp))) .normal ⟨[(2, .ptr 0 0), (6, .ptr 1 0), (7, y13)], g14⟩)) = k (.tup [rp0, i 5]) hp := by kernel_rfl
theorem rest8g_3 (O : Orc) (n : Nat) (d0 d1 d2 : UInt8) (hp : Hp) (k : PV → Hp → Option R) :
    evC tys e22 (.seq (.block 0 l22_0) (.seq r22_6 .ret)) (callF tys fns O (run tys fns O (n + 100))) (run tys fns O (n + 100)) ⟨[(0, .ptr 1 0), (1, .bnd 23 [.ptr 1 0]), (5, nl), (6, i 0)], H8 [1, d0, d1, d2] 4 5⟩ (endK tys e22.fn (fun y5 g5 =>
  callF tys fns O (run tys fns O (n + 101)) 24 [.ptr 1 0, (.bnd 25 [.ptr 1 0])] g5 fun y9 g9 =>
  callF tys fns O (run tys fns O (n + 101)) 14 [.ptr 1 0] g9 fun y11 g11 =>
  bP (primBuild tys g11 32 (some [(0, bt true), (1, y5), (2, y9), (3, y11)])) fun y12 g12 =>
  bP (primAlloc tys g12 32) fun y13 g13 =>
  bP (primStore tys g13 32 (some y13) (some y12)) fun y14 g14 =>
  (seqK (fun st' => evC tys e8 (.seq (.seq r8_6 (.seq r8_7 (.cond (.tmp 37) (.seq r8_8 .ret) .skip))) (.seq r8_9 .ret)) (callF tys fns O (run tys fns O (n + 101))) (run tys fns O (n + 101)) st' (endK tys e8.fn (dataK k hp))) (endK tys e8.fn (dataK k hp))) .normal ⟨[(2, .ptr 0 0), (6, .ptr 1 0), (7, y13)], g14⟩)) = k (.tup [rp0, i 5]) hp := by kernel_rfl
theorem rest8g_4 (O : Orc) (n : Nat) (d0 d1 d2 d3 : UInt8) (hp : Hp) (k : PV → Hp → Option R) :
    evC tys e22 (.seq (.block 0 l22_0) (.seq r22_6 .ret)) (callF tys fns O (run tys fns O (n + 100))) (run tys fns O (n + 100)) ⟨[(0, .ptr 1 0), (1, .bnd 23 [.ptr 1 0]), (5, nl), (6, i 0)], H8 [1, d0, d1, d2, d3] 5 5⟩ (endK tys e22.fn (fun y5 g5 =>
  callF tys fns O (run tys fns O (n + 101)) 24 [.ptr 1 0, (.bnd 25 [.ptr 1 0])] g5 fun y9 g9 =>
  callF tys fns O (run tys fns O (n + 101)) 14 [.ptr 1 0] g9 fun y11 g11 =>
  bP (primBuild tys g11 32 (some [(0, bt true), (1, y5), (2, y9), (3, y11)])) fun y12 g12 =>
  bP (primAlloc tys g12 32) fun y13 g13 =>
  bP (primStore tys g13 32 (some y13) (some y12)) fun y14 g14 =>
  (seqK (fun st' => evC tys e8 (.seq (.seq r8_6 (.seq r8_7 (.cond (.tmp 37) (.seq r8_8 .ret) .skip))) (.seq r8_9 .ret)) (callF tys fns O (run tys fns O (n + 101))) (run tys fns O (n + 101)) st' (endK tys e8.fn (dataK k hp))) (endK tys e8.fn (dataK k hp))) .normal ⟨[(2, .ptr 0 0), (6, .ptr 1 0), (7, y13)], g14⟩)) = k (.tup [rp0, i 5]) hp := by kernel_rfl
theorem rest8g_5 (O : Orc) (n : Nat) (d0 d1 d2 d3 d4 : UInt8) (hp : Hp) (k : PV → Hp → Option R) :
    evC tys e22 (.seq (.block 0 l22_0) (.seq r22_6 .ret)) (callF tys fns O (run tys fns O (n + 100))) (run tys fns O (n + 100)) ⟨[(0, .ptr 1 0), (1, .bnd 23 [.ptr 1 0]), (5, nl), (6, i 0)], H8 [1, d0, d1, d2, d3, d4] 6 5⟩ (endK tys e22.fn (fun y5 g5 =>
  callF tys fns O (run tys fns O (n + 101)) 24 [.ptr 1 0, (.bnd 25 [.ptr 1 0])] g5 fun y9 g9 =>
  callF tys fns O (run tys fns O (n + 101)) 14 [.ptr 1 0] g9 fun y11 g11 =>
  bP (primBuild tys g11 32 (some [(0, bt true), (1, y5), (2, y9), (3, y11)])) fun y12 g12 =>
  bP (primAlloc tys g12 32) fun y13 g13 =>
  bP (primStore tys g13 32 (some y13) (some y12)) fun y14 g14 =>
  (seqK (fun st' => evC tys e8 (.seq (.seq r8_6 (.seq r8_7 (.cond (.tmp 37) (.seq r8_8 .ret) .skip))) (.seq r8_9 .ret)) (callF tys fns O (run tys fns O (n + 101))) (run tys fns O (n + 101)) st' (endK tys e8.fn (dataK k hp))) (endK tys e8.fn (dataK k hp))) .normal ⟨[(2, .ptr 0 0), (6, .ptr 1 0), (7, y13)], g14⟩)) = k (.tup [rp0, i 5]) hp := by kernel_rfl
theorem rest8g_6 (O : Orc) (n : Nat) (d0 d1 d2 d3 d4 d5 : UInt8) (hp : Hp) (k : PV → Hp → Option R) :
    evC tys e22 (.seq (.block 0 l22_0) (.seq r22_6 .ret)) (callF tys fns O (run tys fns O (n + 100))) (run tys fns O (n + 100)) ⟨[(0, .ptr 1 0), (1, .bnd 23 [.ptr 1 0]), (5, nl), (6, i 0)], H8 [1, d0, d1, d2, d3, d4, d5] 7 5⟩ (endK tys e22.fn (fun y5 g5 =>
  callF tys fns O (run tys fns O (n + 101)) 24 [.ptr 1 0, (.bnd 25 [.ptr 1 0])] g5 fun y9 g9 =>
  callF tys fns O (run tys fns O (n + 101)) 14 [.ptr 1 0] g9 fun y11 g11 =>
  bP (primBuild tys g11 32 (some [(0, bt true), (1, y5), (2, y9), (3, y11)])) fun y12 g12 =>
  bP (primAlloc tys g12 32) fun y13 g13 =>
  bP (primStore tys g13 32 (some y13) (some y12)) fun y14 g14 =>
  (seqK (fun st' => evC tys e8 (.seq (.seq r8_6 (.seq r8_7 (.cond (.tmp 37) (.seq r8_8 .ret) .skip))) (.seq r8_9 .ret)) (callF tys fns O (run tys fns O (n + 101))) (run tys fns O (n + 101)) st' (endK tys e8.fn (dataK k hp))) (endK tys e8.fn (dataK k hp))) .normal ⟨[(2, .ptr 0 0), (6, .ptr 1 0), (7, y13)], g14⟩)) = k (.tup [rp0, i 5]) hp := by kernel_rfl
theorem rest8g_7 (O : Orc) (n : Nat) (d0 d1 d2 d3 d4 d5 d6 : UInt8) (hp : Hp) (k : PV → Hp → Option R) :
    evC tys e22 (.seq (.block 0 l22_0) (.seq r22_6 .ret)) (callF tys fns O (run tys fns O (n + 100))) (run tys fns O (n + 100)) ⟨[(0, .ptr 1 0), (1, .bnd 23 [.ptr 1 0]), (5, nl), (6, i 0)], H8 [1, d0, d1, d2, d3, d4, d5, d6] 8 5⟩ (endK tys e22.fn (fun y5 g5 =>
  callF tys fns O (run tys fns O (n + 101)) 24 [.ptr 1 0, (.bnd 25 [.ptr 1 0])] g5 fun y9 g9 =>
  callF tys fns O (run tys fns O (n + 101)) 14 [.ptr 1 0] g9 fun y11 g11 =>
  bP (primBuild tys g11 32 (some [(0, bt true), (1, y5), (2, y9), (3, y11)])) fun y12 g12 =>
  bP (primAlloc tys g12 32) fun y13 g13 =>
  bP (primStore tys g13 32 (some y13) (some y12)) fun y14 g14 =>
  (seqK (fun st' => evC tys e8 (.seq (.seq r8_6 (.seq r8_7 (.cond (.tmp 37) (.seq r8_8 .ret) .skip))) (.seq r8_9 .ret)) (callF tys fns O (run tys fns O (n + 101))) (run tys fns O (n + 101)) st' (endK tys e8.fn (dataK k hp))) (endK tys e8.fn (dataK k hp))) .normal ⟨[(2, .ptr 0 0), (6, .ptr 1 0), (7, y13)], g14⟩)) = k (.tup [rp0, i 5]) hp := by kernel_rfl
theorem rest8g_8 (O : Orc) (n : Nat) (d0 d1 d2 d3 d4 d5 d6 d7 : UInt8) (hp : Hp) (k : PV → Hp → Option R) :
    evC tys e22 (.seq (.block 0 l22_0) (.seq r22_6 .ret)) (callF tys fns O (run tys fns O (n + 100))) (run tys fns O (n + 100)) ⟨[(0, .ptr 1 0), (1, .bnd 23 [.ptr 1 0]), (5, nl), (6, i 0)], H8 [1, d0, d1, d2, d3, d4, d5, d6, d7] 9 5⟩ (endK tys e22.fn (fun y5 g5 =>
  callF tys fns O (run tys fns O (n + 101)) 24 [.ptr 1 0, (.bnd 25 [.ptr 1 0])] g5 fun y9 g9 =>
  callF tys fns O (run tys fns O (n + 101)) 14 [.ptr 1 0] g9 fun y11 g11 =>
  bP (primBuild tys g11 32 (some [(0, bt true), (1, y5), (2, y9), (3, y11)])) fun y12 g12 =>
  bP (primAlloc tys g12 32) fun y13 g13 =>
  bP (primStore tys g13 32 (some y13) (some y12)) fun y14 g14 =>
  (seqK (fun st' => evC tys e8 (.seq (.seq r8_6 (.seq r8_7 (.cond (.tmp 37) (.seq r8_8 .ret) .skip))) (.seq r8_9 .ret)) (callF tys fns O (run tys fns O (n + 101))) (run tys fns O (n + 101)) st' (endK tys e8.fn (dataK k hp))) (endK tys e8.fn (dataK k hp))) .normal ⟨[(2, .ptr 0 0), (6, .ptr 1 0), (7, y13)], g14⟩)) = k (.tup [rp0, i 5]) hp := by kernel_rfl
theorem rest8g_9 (O : Orc) (n : Nat) (d0 d1 d2 d3 d4 d5 d6 d7 d8 : UInt8) (hp : Hp) (k : PV → Hp → Option R) :
    evC tys e22 (.seq (.block 0 l22_0) (.seq r22_6 .ret)) (callF tys fns O (run tys fns O (n + 100))) (run tys fns O (n + 100)) ⟨[(0, .ptr 1 0), (1, .bnd 23 [.ptr 1 0]), (5, nl), (6, i 0)], H8 [1, d0, d1, d2, d3, d4, d5, d6, d7, d8] 10 5⟩ (endK tys e22.fn (fun y5 g5 =>
  callF tys fns O (run tys fns O (n + 101)) 24 [.ptr 1 0, (.bnd 25 [.ptr 1 0])] g5 fun y9 g9 =>
  callF tys fns O (run tys fns O (n + 101)) 14 [.ptr 1 0] g9 fun y11 g11 =>
  bP (primBuild tys g11 32 (some [(0, bt true), (1, y5), (2, y9), (3, y11)])) fun y12 g12 =>
  bP (primAlloc tys g12 32) fun y13 g13 =>
  bP (primStore tys g13 32 (some y13) (some y12)) fun y14 g14 =>
  (seqK (fun st' => evC tys e8 (.seq (.seq r8_6 (.seq r8_7 (.cond (.tmp 37) (.seq r8_8 .ret) .skip))) (.seq r8_9 .ret)) (callF tys fns O (run tys fns O (n + 101))) (run tys fns O (n + 101)) st' (endK tys e8.fn (dataK k hp))) (endK tys e8.fn (dataK k hp))) .normal ⟨[(2, .ptr 0 0), (6, .ptr 1 0), (7, y13)], g14⟩)) = k (.tup [rp0, i 5]) hp := by kernel_rfl
theorem rest8g_10 (O : Orc) (n : Nat) (d0 d1 d2 d3 d4 d5 d6 d7 d8 d9 : UInt8) (hp : Hp) (k : PV → Hp → Option R) :
    evC tys e22 (.seq (.block 0 l22_0) (.seq r22_6 .ret)) (callF tys fns O (run tys fns O (n + 100))) (run tys fns O (n + 100)) ⟨[(0, .ptr 1 0), (1, .bnd 23 [.ptr 1 0]), (5, nl), (6, i 0)], H8 [1, d0, d1, d2, d3, d4, d5, d6, d7, d8, d9] 11 5⟩ (endK tys e22.fn (fun y5 g5 =>
  callF tys fns O (run tys fns O (n + 101)) 24 [.ptr 1 0, (.bnd 25 [.ptr 1 0])] g5 fun y9 g9 =>
  callF tys fns O (run tys fns O (n + 101)) 14 [.ptr 1 0] g9 fun y11 g11 =>
  bP (primBuild tys g11 32 (some [(0, bt true), (1, y5), (2, y9), (3, y11)])) fun y12 g12 =>
  bP (primAlloc tys g12 32) fun y13 g13 =>
  bP (primStore tys g13 32 (some y13) (some y12)) fun y14 g14 =>
  (seqK (fun st' => evC tys e8 (.seq (.seq r8_6 (.seq r8_7 (.cond (.tmp 37) (.seq r8_8 .ret) .skip))) (.seq r8_9 .ret)) (callF tys fns O (run tys fns O (n + 101))) (run tys fns O (n + 101)) st' (endK tys e8.fn (dataK k hp))) (endK tys e8.fn (dataK k hp))) .normal ⟨[(2, .ptr 0 0), (6, .ptr 1 0), (7, y13)], g14⟩)) = k (.tup [rp0, i 5]) hp := by kernel_rfl
theorem rest8g (O : Orc) (n : Nat) (l : List UInt8) (h1 : 1 ≤ l.length) (h2 : l.length ≤ 10) (hp : Hp) (k : PV → Hp → Option R) :
    evC tys e22 (.seq (.block 0 l22_0) (.seq r22_6 .ret)) (callF tys fns O (run tys fns O (n + 100))) (run tys fns O (n + 100)) ⟨[(0, .ptr 1 0), (1, .bnd 23 [.ptr 1 0]), (5, nl), (6, i 0)], H8 (1 :: l) (1 :: l).length 5⟩ (endK tys e22.fn (fun y5 g5 =>
  callF tys fns O (run tys fns O (n + 101)) 24 [.ptr 1 0, (.bnd 25 [.ptr 1 0])] g5 fun y9 g9 =>
  callF tys fns O (run tys fns O (n + 101)) 14 [.ptr 1 0] g9 fun y11 g11 =>
  bP (primBuild tys g11 32 (some [(0, bt true), (1, y5), (2, y9), (3, y11)])) fun y12 g12 =>
  bP (primAlloc tys g12 32) fun y13 g13 =>
  bP (primStore tys g13 32 (some y13) (some y12)) fun y14 g14 =>
  (seqK (fun st' => evC tys e8 (.seq (.seq r8_6 (.seq r8_7 (.cond (.tmp 37) (.seq r8_8 .ret) .skip))) (.seq r8_9 .ret)) (callF tys fns O (run tys fns O (n + 101))) (run tys fns O (n + 101)) st' (endK tys e8.fn (dataK k hp))) (endK tys e8.fn (dataK k hp))) .normal ⟨[(2, .ptr 0 0), (6, .ptr 1 0), (7, y13)], g14⟩)) = k (.tup [rp0, i 5]) hp := by
  match l, h1, h2 with
  | [d0], _, _ => exact rest8g_1 O n d0 hp k
  | [d0, d1], _, _ => exact rest8g_2 O n d0 d1 hp k
  | [d0, d1, d2], _, _ => exact rest8g_3 O n d0 d1 d2 hp k
  | [d0, d1, d2, d3], _, _ => exact rest8g_4 O n d0 d1 d2 d3 hp k
  | [d0, d1, d2, d3, d4], _, _ => exact rest8g_5 O n d0 d1 d2 d3 d4 hp k
  | [d0, d1, d2, d3, d4, d5], _, _ => exact rest8g_6 O n d0 d1 d2 d3 d4 d5 hp k
  | [d0, d1, d2, d3, d4, d5, d6], _, _ => exact rest8g_7 O n d0 d1 d2 d3 d4 d5 d6 hp k
  | [d0, d1, d2, d3, d4, d5, d6, d7], _, _ => exact rest8g_8 O n d0 d1 d2 d3 d4 d5 d6 d7 hp k
  | [d0, d1, d2, d3, d4, d5, d6, d7, d8], _, _ => exact rest8g_9 O n d0 d1 d2 d3 d4 d5 d6 d7 d8 hp k
  | [d0, d1, d2, d3, d4, d5, d6, d7, d8, d9], _, _ => exact rest8g_10 O n d0 d1 d2 d3 d4 d5 d6 d7 d8 d9 hp k
  | _ :: _ :: _ :: _ :: _ :: _ :: _ :: _ :: _ :: _ :: _ :: _, _, h => exact absurd h (by simp)
theorem turn8_1 (O : Orc) (n m : Nat) (d0 : UInt8) (rc : RC R) (k : Ex → St → Option R) :
    evC tys e22 l22_0 (callF tys fns O (run tys fns O (n + 100))) rc ⟨[(0, .ptr 1 0), (1, .bnd 23 [.ptr 1 0]), (5, nl), (6, .v (.int .i64 (.ofNat (m + 1))))], H8 [1, d0] 2 0⟩ k = rc e22 l22_0 ⟨[(0, .ptr 1 0), (1, .bnd 23 [.ptr 1 0]), (5, .row 5 0 1 1 4), (6, .v (.int .i64 (wrapq .i64 (Int.ofNat (m + 1) - Int.ofNat 1))))], ⟨[(5, ⟨[(sb []), (i 0), nl, (i 0)], 4, true, 0⟩), (4, ⟨[(sb []), (i 0), nl, (i 0)], 4, false, 0⟩), (3, ⟨[nl, (i 0)], 2, false, 0⟩), (2, ⟨[(sb []), (i 0), nl, (i 0)], 4, false, 0⟩), (1, rd [1, d0] 2 26), (0, ⟨[bt false, nl, nl, sb [], bt false, nl], 6, false, 0⟩)], 6, []⟩⟩ k := by kernel_rfl
theorem turn8_2 (O : Orc) (n m : Nat) (d0 d1 : UInt8) (rc : RC R) (k : Ex → St → Option R) :
    evC tys e22 l22_0 (callF tys fns O (run tys fns O (n + 100))) rc ⟨[(0, .ptr 1 0), (1, .bnd 23 [.ptr 1 0]), (5, nl), (6, .v (.int .i64 (.ofNat (m + 1))))], H8 [1, d0, d1] 3 0⟩ k = rc e22 l22_0 ⟨[(0, .ptr 1 0), (1, .bnd 23 [.ptr 1 0]), (5, .row 5 0 1 1 4), (6, .v (.int .i64 (wrapq .i64 (Int.ofNat (m + 1) - Int.ofNat 1))))], ⟨[(5, ⟨[(sb []), (i 0), nl, (i 0)], 4, true, 0⟩), (4, ⟨[(sb []), (i 0), nl, (i 0)], 4, false, 0⟩), (3, ⟨[nl, (i 0)], 2, false, 0⟩), (2, ⟨[(sb []), (i 0), nl, (i 0)], 4, false, 0⟩), (1, rd [1, d0, d1] 3 26), (0, ⟨[bt false, nl, nl, sb [], bt false, nl], 6, false, 0⟩)], 6, []⟩⟩ k := by kernel_rfl
theorem turn8_3 (O : Orc) (n m : Nat) (d0 d1 d2 : UInt8) (rc : RC R) (k : Ex → St → Option R) :
    evC tys e22 l22_0 (callF tys fns O (run tys fns O (n + 100))) rc ⟨[(0, .ptr 1 0), (1, .bnd 23 [.ptr 1 0]), (5, nl), (6, .v (.int .i64 (.ofNat (m + 1))))], H8 [1, d0, d1, d2] 4 0⟩ k = rc e22 l22_0 ⟨[(0, .ptr 1 0), (1, .bnd 23 [.ptr 1 0]), (5, .row 5 0 1 1 4), (6, .v (.int .i64 (wrapq .i64 (Int.ofNat (m + 1) - Int.ofNat 1))))], ⟨[(5, ⟨[(sb []), (i 0), nl, (i 0)], 4, true, 0⟩), (4, ⟨[(sb []), (i 0), nl, (i 0)], 4, false, 0⟩), (3, ⟨[nl, (i 0)], 2, false, 0⟩), (2, ⟨[(sb []), (i 0), nl, (i 0)], 4, false, 0⟩), (1, rd [1, d0, d1, d2] 4 26), (0, ⟨[bt false, nl, nl, sb [], bt false, nl], 6, false, 0⟩)], 6, []⟩⟩ k := by kernel_rfl
theorem turn8_4 (O : Orc) (n m : Nat) (d0 d1 d2 d3 : UInt8) (rc : RC R) (k : Ex → St → Option R) :
    evC tys e22 l22_0 (callF tys fns O (run tys fns O (n + 100))) rc ⟨[(0, .ptr 1 0), (1, .bnd 23 [.ptr 1 0]), (5, nl), (6, .v (.int .i64 (.ofNat (m + 1))))], H8 [1, d0, d1, d2, d3] 5 0⟩ k = rc e22 l22_0 ⟨[(0, .ptr 1 0), (1, .bnd 23 [.ptr 1 0]), (5, .row 5 0 1 1 4), (6, .v (.int .i64 (wrapq .i64 (Int.ofNat (m + 1) - Int.ofNat 1))))], ⟨[(5, ⟨[(sb []), (i 0), nl, (i 0)], 4, true, 0⟩), (4, ⟨[(sb []), (i 0), nl, (i 0)], 4, false, 0⟩), (3, ⟨[nl, (i 0)], 2, false, 0⟩), (2, ⟨[(sb []), (i 0), nl, (i 0)], 4, false, 0⟩), (1, rd [1, d0, d1, d2, d3] 5 26), (0, ⟨[bt false, nl, nl, sb [], bt false, nl], 6, false, 0⟩)], 6, []⟩⟩ k := by kernel_rfl
theorem turn8_5 (O : Orc) (n m : Nat) (d0 d1 d2 d3 d4 : UInt8) (rc : RC R) (k : Ex → St → Option R) :
    evC tys e22 l22_0 (callF tys fns O (run tys fns O (n + 100))) rc ⟨[(0, .ptr 1 0), (1, .bnd 23 [.ptr 1 0]), (5, nl), (6, .v (.int .i64 (.ofNat (m + 1))))], H8 [1, d0, d1, d2, d3, d4] 6 0⟩ k = rc e22 l22_0 ⟨[(0, .ptr 1 0), (1, .bnd 23 [.ptr 1 0]), (5, .row 5 0 1 1 4), (6, .v (.int .i64 (wrapq .i64 (Int.ofNat (m + 1) - Int.ofNat 1))))], ⟨[(5, ⟨[(sb []), (i 0), nl, (i 0)], 4, true, 0⟩), (4, ⟨[(sb []), (i 0), nl, (i 0)], 4, false, 0⟩), (3, ⟨[nl, (i 0)], 2, false, 0⟩), (2, ⟨[(sb []), (i 0), nl, (i 0)], 4, false, 0⟩), (1, rd [1, d0, d1, d2, d3, d4] 6 26), (0, ⟨[bt false, nl, nl, sb [], bt false, nl], 6, false, 0⟩)], 6, []⟩⟩ k := by kernel_rfl
theorem turn8_6 (O : Orc) (n m : Nat) (d0 d1 d2 d3 d4 d5 : UInt8) (rc : RC R) (k : Ex → St → Option R) :
    evC tys e22 l22_0 (callF tys fns O (run tys fns O (n + 100))) rc ⟨[(0, .ptr 1 0), (1, .bnd 23 [.ptr 1 0]), (5, nl), (6, .v (.int .i64 (.ofNat (m + 1))))], H8 [1, d0, d1, d2, d3, d4, d5] 7 0⟩ k = rc e22 l22_0 ⟨[(0, .ptr 1 0), (1, .bnd 23 [.ptr 1 0]), (5, .row 5 0 1 1 4), (6, .v (.int .i64 (wrapq .i64 (Int.ofNat (m + 1) - Int.ofNat 1))))], ⟨[(5, ⟨[(sb []), (i 0), nl, (i 0)], 4, true, 0⟩), (4, ⟨[(sb []), (i 0), nl, (i 0)], 4, false, 0⟩), (3, ⟨[nl, (i 0)], 2, false, 0⟩), (2, ⟨[(sb []), (i 0), nl, (i 0)], 4, false, 0⟩), (1, rd [1, d0, d1, d2, d3, d4, d5] 7 26), (0, ⟨[bt false, nl, nl, sb [], bt false, nl], 6, false, 0⟩)], 6, []⟩⟩ k := by kernel_rfl
theorem turn8_7 (O : Orc) (n m : Nat) (d0 d1 d2 d3 d4 d5 d6 : UInt8) (rc : RC R) (k : Ex → St → Option R) :
    evC tys e22 l22_0 (callF tys fns O (run tys fns O (n + 100))) rc ⟨[(0, .ptr 1 0), (1, .bnd 23 [.ptr 1 0]), (5, nl), (6, .v (.int .i64 (.ofNat (m + 1))))], H8 [1, d0, d1, d2, d3, d4, d5, d6] 8 0⟩ k = rc e22 l22_0 ⟨[(0, .ptr 1 0), (1, .bnd 23 [.ptr 1 0]), (5, .row 5 0 1 1 4), (6, .v (.int .i64 (wrapq .i64 (Int.ofNat (m + 1) - Int.ofNat 1))))], ⟨[(5, ⟨[(sb []), (i 0), nl, (i 0)], 4, true, 0⟩), (4, ⟨[(sb []), (i 0), nl, (i 0)], 4, false, 0⟩), (3, ⟨[nl, (i 0)], 2, false, 0⟩), (2, ⟨[(sb []), (i 0), nl, (i 0)], 4, false, 0⟩), (1, rd [1, d0, d1, d2, d3, d4, d5, d6] 8 26), (0, ⟨[bt false, nl, nl, sb [], bt false, nl], 6, false, 0⟩)], 6, []⟩⟩ k := by kernel_rfl
theorem turn8_8 (O : Orc) (n m : Nat) (d0 d1 d2 d3 d4 d5 d6 d7 : UInt8) (rc : RC R) (k : Ex → St → Option R) :
    evC tys e22 l22_0 (callF tys fns O (run tys fns O (n + 100))) rc ⟨[(0, .ptr 1 0), (1, .bnd 23 [.ptr 1 0]), (5, nl), (6, .v (.int .i64 (.ofNat (m + 1))))], H8 [1, d0, d1, d2, d3, d4, d5, d6, d7] 9 0⟩ k = rc e22 l22_0 ⟨[(0, .ptr 1 0), (1, .bnd 23 [.ptr 1 0]), (5, .row 5 0 1 1 4), (6, .v (.int .i64 (wrapq .i64 (Int.ofNat (m + 1) - Int.ofNat 1))))], ⟨[(5, ⟨[(sb []), (i 0), nl, (i 0)], 4, true, 0⟩), (4, ⟨[(sb []), (i 0), nl, (i 0)], 4, false, 0⟩), (3, ⟨[nl, (i 0)], 2, false, 0⟩), (2, ⟨[(sb []), (i 0), nl, (i 0)], 4, false, 0⟩), (1, rd [1, d0, d1, d2, d3, d4, d5, d6, d7] 9 26), (0, ⟨[bt false, nl, nl, sb [], bt false, nl], 6, false, 0⟩)], 6, []⟩⟩ k := by kernel_rfl
theorem turn8_9 (O : Orc) (n m : Nat) (d0 d1 d2 d3 d4 d5 d6 d7 d8 : UInt8) (rc : RC R) (k : Ex → St → Option R) :
    evC tys e22 l22_0 (callF tys fns O (run tys fns O (n + 100))) rc ⟨[(0, .ptr 1 0), (1, .bnd 23 [.ptr 1 0]), (5, nl), (6, .v (.int .i64 (.ofNat (m + 1))))], H8 [1, d0, d1, d2, d3, d4, d5, d6, d7, d8] 10 0⟩ k = rc e22 l22_0 ⟨[(0, .ptr 1 0), (1, .bnd 23 [.ptr 1 0]), (5, .row 5 0 1 1 4), (6, .v (.int .i64 (wrapq .i64 (Int.ofNat (m + 1) - Int.ofNat 1))))], ⟨[(5, ⟨[(sb []), (i 0), nl, (i 0)], 4, true, 0⟩), (4, ⟨[(sb []), (i 0), nl, (i 0)], 4, false, 0⟩), (3, ⟨[nl, (i 0)], 2, false, 0⟩), (2, ⟨[(sb []), (i 0), nl, (i 0)], 4, false, 0⟩), (1, rd [1, d0, d1, d2, d3, d4, d5, d6, d7, d8] 10 26), (0, ⟨[bt false, nl, nl, sb [], bt false, nl], 6, false, 0⟩)], 6, []⟩⟩ k := by kernel_rfl
theorem turn8_10 (O : Orc) (n m : Nat) (d0 d1 d2 d3 d4 d5 d6 d7 d8 d9 : UInt8) (rc : RC R) (k : Ex → St → Option R) :
    evC tys e22 l22_0 (callF tys fns O (run tys fns O (n + 100))) rc ⟨[(0, .ptr 1 0), (1, .bnd 23 [.ptr 1 0]), (5, nl), (6, .v (.int .i64 (.ofNat (m + 1))))], H8 [1, d0, d1, d2, d3, d4, d5, d6, d7, d8, d9] 11 0⟩ k = rc e22 l22_0 ⟨[(0, .ptr 1 0), (1, .bnd 23 [.ptr 1 0]), (5, .row 5 0 1 1 4), (6, .v (.int .i64 (wrapq .i64 (Int.ofNat (m + 1) - Int.ofNat 1))))], ⟨[(5, ⟨[(sb []), (i 0), nl, (i 0)], 4, true, 0⟩), (4, ⟨[(sb []), (i 0), nl, (i 0)], 4, false, 0⟩), (3, ⟨[nl, (i 0)], 2, false, 0⟩), (2, ⟨[(sb []), (i 0), nl, (i 0)], 4, false, 0⟩), (1, rd [1, d0, d1, d2, d3, d4, d5, d6, d7, d8, d9] 11 26), (0, ⟨[bt false, nl, nl, sb [], bt false, nl], 6, false, 0⟩)], 6, []⟩⟩ k := by kernel_rfl
theorem turn8 (O : Orc) (n m : Nat) (l : List UInt8) (h1 : 1 ≤ l.length) (h2 : l.length ≤ 10) (rc : RC R) (k : Ex → St → Option R) :
    evC tys e22 l22_0 (callF tys fns O (run tys fns O (n + 100))) rc ⟨[(0, .ptr 1 0), (1, .bnd 23 [.ptr 1 0]), (5, nl), (6, .v (.int .i64 (.ofNat (m + 1))))], H8 (1 :: l) (1 :: l).length 0⟩ k = rc e22 l22_0 ⟨[(0, .ptr 1 0), (1, .bnd 23 [.ptr 1 0]), (5, .row 5 0 1 1 4), (6, .v (.int .i64 (wrapq .i64 (Int.ofNat (m + 1) - Int.ofNat 1))))], ⟨[(5, ⟨[(sb []), (i 0), nl, (i 0)], 4, true, 0⟩), (4, ⟨[(sb []), (i 0), nl, (i 0)], 4, false, 0⟩), (3, ⟨[nl, (i 0)], 2, false, 0⟩), (2, ⟨[(sb []), (i 0), nl, (i 0)], 4, false, 0⟩), (1, rd (1 :: l) (1 :: l).length 26), (0, ⟨[bt false, nl, nl, sb [], bt false, nl], 6, false, 0⟩)], 6, []⟩⟩ k := by
  match l, h1, h2 with
  | [d0], _, _ => exact turn8_1 O n m d0 rc k
  | [d0, d1], _, _ => exact turn8_2 O n m d0 d1 rc k
  | [d0, d1, d2], _, _ => exact turn8_3 O n m d0 d1 d2 rc k
  | [d0, d1, d2, d3], _, _ => exact turn8_4 O n m d0 d1 d2 d3 rc k
  | [d0, d1, d2, d3, d4], _, _ => exact turn8_5 O n m d0 d1 d2 d3 d4 rc k
  | [d0, d1, d2, d3, d4, d5], _, _ => exact turn8_6 O n m d0 d1 d2 d3 d4 d5 rc k
  | [d0, d1, d2, d3, d4, d5, d6], _, _ => exact turn8_7 O n m d0 d1 d2 d3 d4 d5 d6 rc k
  | [d0, d1, d2, d3, d4, d5, d6, d7], _, _ => exact turn8_8 O n m d0 d1 d2 d3 d4 d5 d6 d7 rc k
  | [d0, d1, d2, d3, d4, d5, d6, d7, d8], _, _ => exact turn8_9 O n m d0 d1 d2 d3 d4 d5 d6 d7 d8 rc k
  | [d0, d1, d2, d3, d4, d5, d6, d7, d8, d9], _, _ => exact turn8_10 O n m d0 d1 d2 d3 d4 d5 d6 d7 d8 d9 rc k
  | _ :: _ :: _ :: _ :: _ :: _ :: _ :: _ :: _ :: _ :: _ :: _, _, h => exact absurd h (by simp)
theorem fin8a_1 (O : Orc) (n : Nat) (d0 : UInt8) (hp : Hp) (k : PV → Hp → Option R) :
    run tys fns O (n + 100) e22 l22_0 ⟨[(0, .ptr 1 0), (1, .bnd 23 [.ptr 1 0]), (5, .row 5 0 1 1 4), (6, i 0)], ⟨[(5, ⟨[(sb []), (i 0), nl, (i 0)], 4, true, 0⟩), (4, ⟨[(sb []), (i 0), nl, (i 0)], 4, false, 0⟩), (3, ⟨[nl, (i 0)], 2, false, 0⟩), (2, ⟨[(sb []), (i 0), nl, (i 0)], 4, false, 0⟩), (1, rd [1, d0] 2 26), (0, ⟨[bt false, nl, nl, sb [], bt false, nl], 6, false, 0⟩)], 6, []⟩⟩ (blockK 0 (seqK (fun st' => evC tys e22 (.seq r22_6 .ret) (callF tys fns O (run tys fns O (n + 100))) (run tys fns O (n + 100)) st' (endK tys e22.fn (fun y5 g5 =>
  callF tys fns O (run tys fns O (n + 101)) 24 [.ptr 1 0, (.bnd 25 [.ptr 1 0])] g5 fun y9 g9 =>
  callF tys fns O (run tys fns O (n + 101)) 14 [.ptr 1 0] g9 fun y11 g11 =>
  bP (primBuild tys g11 32 (some [(0, bt true), (1, y5), (2, y9), (3, y11)])) fun y12 g12 =>
  bP (primAlloc tys g12 32) fun y13 g13 =>
  bP (primStore tys g13 32 (some y13) (some y12)) fun y14 g14 =>
  (seqK (fun st' => evC tys e8 (.seq (.seq r8_6 (.seq r8_7 (.cond (.tmp 37) (.seq r8_8 .ret) .skip))) (.seq r8_9 .ret)) (callF tys fns O (run tys fns O (n + 101))) (run tys fns O (n + 101)) st' (endK tys e8.fn (dataK k hp))) (endK tys e8.fn (dataK k hp))) .normal ⟨[(2, .ptr 0 0), (6, .ptr 1 0), (7, y13)], g14⟩))) (endK tys e22.fn (fun y5 g5 =>
  callF tys fns O (run tys fns O (n + 101)) 24 [.ptr 1 0, (.bnd 25 [.ptr 1 0])] g5 fun y9 g9 =>
  callF tys fns O (run tys fns O (n + 101)) 14 [.ptr 1 0] g9 fun y11 g11 =>
  bP (primBuild tys g11 32 (some [(0, bt true), (1, y5), (2, y9), (3, y11)])) fun y12 g12 =>
  bP (primAlloc tys g12 32) fun y13 g13 =>
  bP (primStore tys g13 32 (some y13) (some y12)) fun y14 g14 =>
  (seqK (fun st' => evC tys e8 (.seq (.seq r8_6 (.seq r8_7 (.cond (.tmp 37) (.seq r8_8 .ret) .skip))) (.seq r8_9 .ret)) (callF tys fns O (run tys fns O (n + 101))) (run tys fns O (n + 101)) st' (endK tys e8.fn (dataK k hp))) (endK tys e8.fn (dataK k hp))) .normal ⟨[(2, .ptr 0 0), (6, .ptr 1 0), (7, y13)], g14⟩)))) = k (.tup [rp0, i 26]) hp := by kernel_rfl
theorem fin8a_2 (O : Orc) (n : Nat) (d0 d1 : UInt8) (hp : Hp) (k : PV → Hp → Option R) :
    run tys fns O (n + 100) e22 l22_0 ⟨[(0, .ptr 1 0), (1, .bnd 23 [.ptr 1 0]), (5, .row 5 0 1 1 4), (6, i 0)], ⟨[(5, ⟨[(sb []), (i 0), nl, (i 0)], 4, true, 0⟩), (4, ⟨[(sb []), (i 0), nl, (i 0)], 4, false, 0⟩), (3, ⟨[nl, (i 0)], 2, false, 0⟩), (2, ⟨[(sb []), (i 0), nl, (i 0)], 4, false, 0⟩), (1, rd [1, d0, d1] 3 26), (0, ⟨[bt false, nl, nl, sb [], bt false, nl], 6, false, 0⟩)], 6, []⟩⟩ (blockK 0 (seqK (fun st' => evC tys e22 (.seq r22_6 .ret) (callF tys fns O (run tys fns O (n + 100))) (run tys fns O (n + 100)) st' (endK tys e22.fn (fun y5 g5 =>
  callF tys fns O (run tys fns O (n + 101)) 24 [.ptr 1 0, (.bnd 25 [.ptr 1 0])] g5 fun y9 g9 =>
  callF tys fns O (run tys fns O (n + 101)) 14 [.ptr 1 0] g9 fun y11 g11 =>
  bP (primBuild tys g11 32 (some [(0, bt true), (1, y5), (2, y9), (3, y11)])) fun y12 g12 =>
  bP (primAlloc tys g12 32) fun y13 g13 =>
  bP (primStore tys g13 32 (some y13) (some y12)) fun y14 g14 =>
  (seqK (fun st' => evC tys e8 (.seq (.seq r8_6 (.seq r8_7 (.cond (.tmp 37) (.seq r8_8 .ret) .skip))) (.seq r8_9 .ret)) (callF tys fns O (run tys fns O (n + 101))) (run tys fns O (n + 101)) st' (endK tys e8.fn (dataK k hp))) (endK tys e8.fn (dataK k hp))) .normal ⟨[(2, .ptr 0 0), (6, .ptr 1 0), (7, y13)], g14⟩))) (endK tys e22.fn (fun y5 g5 =>
  callF tys fns O (run tys fns O (n + 101)) 24 [.ptr 1 0, (.bnd 25 [.ptr 1 0])] g5 fun y9 g9 =>
  callF tys fns O (run tys fns O (n + 101)) 14 [.ptr 1 0] g9 fun y11 g11 =>
  bP (primBuild tys g11 32 (some [(0, bt true), (1, y5), (2, y9), (3, y11)])) fun y12 g12 =>
  bP (primAlloc tys g12 32) fun y13 g13 =>
  bP (primStore tys g13 32 (some y13) (some y12)) fun y14 g14 =>
  (seqK (fun st' => evC tys e8 (.seq (.seq r8_6 (.seq r8_7 (.cond (.tmp 37) (.seq r8_8 .ret) .skip))) (.seq r8_9 .ret)) (callF tys fns O (run tys fns O (n + 101))) (run tys fns O (n + 101)) st' (endK tys e8.fn (dataK k hp))) (endK tys e8.fn (dataK k hp))) .normal ⟨[(2, .ptr 0 0), (6, .ptr 1 0), (7, y13)], g14⟩)))) = k (.tup [rp0, i 26]) hp := by kernel_rfl
theorem fin8a_3 (O : Orc) (n : Nat) (d0 d1 d2 : UInt8) (hp : Hp) (k : PV → Hp → Option R) :
    run tys fns O (n + 100) e22 l22_0 ⟨[(0, .ptr 1 0), (1, .bnd 23 [.ptr 1 0]), (5, .row 5 0 1 1 4), (6, i 0)], ⟨[(5, ⟨[(sb []), (i 0), nl, (i 0)], 4, true, 0⟩), (4, ⟨[(sb []), (i 0), nl, (i 0)], 4, false, 0⟩), (3, ⟨[nl, (i 0)], 2, false, 0⟩), (2, ⟨[(sb []), (i 0), nl, (i 0)], 4, false, 0⟩), (1, rd [1, d0, d1, d2] 4 26), (0, ⟨[bt false, nl, nl, sb [], bt false, nl], 6, false, 0⟩)], 6, []⟩⟩ (blockK 0 (seqK (fun st' => evC tys e22 (.seq r22_6 .ret) (callF tys fns O (run tys fns O (n + 100))) (run tys fns O (n + 100)) st' (endK tys e22.fn (fun y5 g5 =>
  callF tys fns O (run tys fns O (n + 101)) 24 [.ptr 1 0, (.bnd 25 [.ptr 1 0])] g5 fun y9 g9 =>
  callF tys fns O (run tys fns O (n + 101)) 14 [.ptr 1 0] g9 fun y11 g11 =>
  bP (primBuild tys g11 32 (some [(0, bt true), (1, y5), (2, y9), (3, y11)])) fun y12 g12 =>
  bP (primAlloc tys g12 32) fun y13 g13 =>
  bP (primStore tys g13 32 (some y13) (some y12)) fun y14 g14 =>
  (seqK (fun st' => evC tys e8 (.seq (.seq r8_6 (.seq r8_7 (.cond (.tmp 37) (.seq r8_8 .ret) .skip))) (.seq r8_9 .ret)) (callF tys fns O (run tys fns O (n + 101))) (run tys fns O (n + 101)) st' (endK tys e8.fn (dataK k hp))) (endK tys e8.fn (dataK k hp))) .normal ⟨[(2, .ptr 0 0), (6, .ptr 1 0), (7, y13)], g14⟩))) (endK tys e22.fn (fun y5 g5 =>
  callF tys fns O (run tys fns O (n + 101)) 24 [.ptr 1 0, (.bnd 25 [.ptr 1 0])] g5 fun y9 g9 =>
  callF tys fns O (run tys fns O (n + 101)) 14 [.ptr 1 0] g9 fun y11 g11 =>
  bP (primBuild tys g11 32 (some [(0, bt true), (1, y5), (2, y9), (3, y11)])) fun y12 g12 =>
  bP (primAlloc tys g12 32) fun y13 g13 =>
  bP (primStore tys g13 32 (some y13) (some y12)) fun y14 g14 =>
  (seqK (fun st' => evC tys e8 (.seq (.seq r8_6 (.seq r8_7 (.cond (.tmp 37) (.seq r8_8 .ret) .skip))) (.seq r8_9 .ret)) (callF tys fns O (run tys fns O (n + 101))) (run tys fns O (n + 101)) st' (endK tys e8.fn (dataK k hp))) (endK tys e8.fn (dataK k hp))) .normal ⟨[(2, .ptr 0 0), (6, .ptr 1 0), (7, y13)], g14⟩)))) = k (.tup [rp0, i 26]) hp := by kernel_rfl
theorem fin8a_4 (O : Orc) (n : Nat) (d0 d1 d2 d3 : UInt8) (hp : Hp) (k : PV → Hp → Option R) :
    run tys fns O (n + 100) e22 l22_0 ⟨[(0, .ptr 1 0), (1, .bnd 23 [.ptr 1 0]), (5, .row 5 0 1 1 4), (6, i 0)], ⟨[(5, ⟨[(sb []), (i 0), nl, (i 0)], 4, true, 0⟩), (4, ⟨[(sb []), (i 0), nl, (i 0)], 4, false, 0⟩), (3, ⟨[nl, (i 0)], 2, false, 0⟩), (2, ⟨[(sb []), (i 0), nl, (i 0)], 4, false, 0⟩), (1, rd [1, d0, d1, d2, d3] 5 26), (0, ⟨[bt false, nl, nl, sb [], bt false, nl], 6, false, 0⟩)], 6, []⟩⟩ (blockK 0 (seqK (fun st' => evC tys e22 (.seq r22_6 .ret) (callF tys fns O (run tys fns O (n + 100))) (run tys fns O (n + 100)) st' (endK tys e22.fn (fun y5 g5 =>
  callF tys fns O (run tys fns O (n + 101)) 24 [.ptr 1 0, (.bnd 25 [.ptr 1 0])] g5 fun y9 g9 =>
  callF tys fns O (run tys fns O (n + 101)) 14 [.ptr 1 0] g9 fun y11 g11 =>
  bP (primBuild tys g11 32 (some [(0, bt true), (1, y5), (2, y9), (3, y11)])) fun y12 g12 =>
  bP (primAlloc tys g12 32) fun y13 g13 =>
  bP (primStore tys g13 32 (some y13) (some y12)) fun y14 g14 =>
  (seqK (fun st' => evC tys e8 (.seq (.seq r8_6 (.seq r8_7 (.cond (.tmp 37) (.seq r8_8 .ret) .skip))) (.seq r8_9 .ret)) (callF tys fns O (run tys fns O (n + 101))) (run tys fns O (n + 101)) st' (endK tys e8.fn (dataK k hp))) (endK tys e8.fn (dataK k hp))) .normal ⟨[(2, .ptr 0 0), (6, .ptr 1 0), (7, y13)], g14⟩))) (endK tys e22.fn (fun y5 g5 =>
  callF tys fns O (run tys fns O (n + 101)) 24 [.ptr 1 0, (.bnd 25 [.ptr 1 0])] g5 fun y9 g9 =>
  callF tys fns O (run tys fns O (n + 101)) 14 [.ptr 1 0] g9 fun y11 g11 =>
  bP (primBuild tys g11 32 (some [(0, bt true), (1, y5), (2, y9), (3, y11)])) fun y12 g12 =>
  bP (primAlloc tys g12 32) fun y13 g13 =>
  bP (primStore tys g13 32 (some y13) (some y12)) fun y14 g14 =>
  (seqK (fun st' => evC tys e8 (.seq (.seq r8_6 (.seq r8_7 (.cond (.tmp 37) (.seq r8_8 .ret) .skip))) (.seq r8_9 .ret)) (callF tys fns O (run tys fns O (n + 101))) (run tys fns O (n + 101)) st' (endK tys e8.fn (dataK k hp))) (endK tys e8.fn (dataK k hp))) .normal ⟨[(2, .ptr 0 0), (6, .ptr 1 0), (7, y13)], g14⟩)))) = k (.tup [rp0, i 26]) hp := by kernel_rfl
theorem fin8a_5 (O : Orc) (n : Nat) (d0 d1 d2 d3 d4 : UInt8) (hp : Hp) (k : PV → Hp → Option R) :
    run tys fns O (n + 100) e22 l22_0 ⟨[(0, .ptr 1 0), (1, .bnd 23 [.ptr 1 0]), (5, .row 5 0 1 1 4), (6, i 0)], ⟨[(5, ⟨[(sb []), (i 0), nl, (i 0)], 4, true, 0⟩), (4, ⟨[(sb []), (i 0), nl, (i 0)], 4, false, 0⟩), (3, ⟨[nl, (i 0)], 2, false, 0⟩), (2, ⟨[(sb []), (i 0), nl, (i 0)], 4, false, 0⟩), (1, rd [1, d0, d1, d2, d3, d4] 6 26), (0, ⟨[bt false, nl, nl, sb [], bt false, nl], 6, false, 0⟩)], 6, []⟩⟩ (blockK 0 (seqK (fun st' => evC tys e22 (.seq r22_6 .ret) (callF tys fns O (run tys fns O (n + 100))) (run tys fns O (n + 100)) st' (endK tys e22.fn (fun y5 g5 =>
  callF tys fns O (run tys fns O (n + 101)) 24 [.ptr 1 0, (.bnd 25 [.ptr 1 0])] g5 fun y9 g9 =>
  callF tys fns O (run tys fns O (n + 101)) 14 [.ptr 1 0] g9 fun y11 g11 =>
  bP (primBuild tys g11 32 (some [(0, bt true), (1, y5), (2, y9), (3, y11)])) fun y12 g12 =>
  bP (primAlloc tys g12 32) fun y13 g13 =>
  bP (primStore tys g13 32 (some y13) (some y12)) fun y14 g14 =>
  (seqK (fun st' => evC tys e8 (.seq (.seq r8_6 (.seq r8_7 (.cond (.tmp 37) (.seq r8_8 .ret) .skip))) (.seq r8_9 .ret)) (callF tys fns O (run tys fns O (n + 101))) (run tys fns O (n + 101)) st' (endK tys e8.fn (dataK k hp))) (endK tys e8.fn (dataK k hp))) .normal ⟨[(2, .ptr 0 0), (6, .ptr 1 0), (7, y13)], g14⟩))) (endK tys e22.fn (fun y5 g5 =>
  callF tys fns O (run tys fns O (n + 101)) 24 [.ptr 1 0, (.bnd 25 [.ptr 1 0])] g5 fun y9 g9 =>
  callF tys fns O (run tys fns O (n + 101)) 14 [.ptr 1 0] g9 fun y11 g11 =>
  bP (primBuild tys g11 32 (some [(0, bt true), (1, y5), (2, y9), (3, y11)])) fun y12 g12 =>
  bP (primAlloc tys g12 32) fun y13 g13 =>
  bP (primStore tys g13 32 (some y13) (some y12)) fun y14 g14 =>
  (seqK (fun st' => evC tys e8 (.seq (.seq r8_6 (.seq r8_7 (.cond (.tmp 37) (.seq r8_8 .ret) .skip))) (.seq r8_9 .ret)) (callF tys fns O (run tys fns O (n + 101))) (run tys fns O (n + 101)) st' (endK tys e8.fn (dataK k hp))) (endK tys e8.fn (dataK k hp))) .normal ⟨[(2, .ptr 0 0), (6, .ptr 1 0), (7, y13)], g14⟩)))) = k (.tup [rp0, i 26]) hp := by kernel_rfl
theorem fin8a_6 (O : Orc) (n : Nat) (d0 d1 d2 d3 d4 d5 : UInt8) (hp : Hp) (k : PV → Hp → Option R) :
    run tys fns O (n + 100) e22 l22_0 ⟨[(0, .ptr 1 0), (1, .bnd 23 [.ptr 1 0]), (5, .row 5 0 1 1 4), (6, i 0)], ⟨[(5, ⟨[(sb []), (i 0), nl, (i 0)], 4, true, 0⟩), (4, ⟨[(sb []), (i 0), nl, (i 0)], 4, false, 0⟩), (3, ⟨[nl, (i 0)], 2, false, 0⟩), (2, ⟨[(sb []), (i 0), nl, (i 0)], 4, false, 0⟩), (1, rd [1, d0, d1, d2, d3, d4, d5] 7 26), (0, ⟨[bt false, nl, nl, sb [], bt false, nl], 6, false, 0⟩)], 6, []⟩⟩ (blockK 0 (seqK (fun st' => evC tys e22 (.seq r22_6 .ret) (callF tys fns O (run tys fns O (n + 100))) (run tys fns O (n + 100)) st' (endK tys e22.fn (fun y5 g5 =>
  callF tys fns O (run tys fns O (n + 101)) 24 [.ptr 1 0, (.bnd 25 [.ptr 1 0])] g5 fun y9 g9 =>
  callF tys fns O (run tys fns O (n + 101)) 14 [.ptr 1 0] g9 fun y11 g11 =>
  bP (primBuild tys g11 32 (some [(0, bt true), (1, y5), (2, y9), (3, y11)])) fun y12 g12 =>
  bP (primAlloc tys g12 32) fun y13 g13 =>
  bP (primStore tys g13 32 (some y13) (some y12)) fun y14 g14 =>
  (seqK (fun st' => evC tys e8 (.seq (.seq r8_6 (.seq r8_7 (.cond (.tmp 37) (.seq r8_8 .ret) .skip))) (.seq r8_9 .ret)) (callF tys fns O (run tys fns O (n + 101))) (run tys fns O (n + 101)) st' (endK tys e8.fn (dataK k hp))) (endK tys e8.fn (dataK k hp))) .normal ⟨[(2, .ptr 0 0), (6, .ptr 1 0), (7, y13)], g14⟩))) (endK tys e22.fn (fun y5 g5 =>
  callF tys fns O (run tys fns O (n + 101)) 24 [.ptr 1 0, (.bnd 25 [.ptr 1 0])] g5 fun y9 g9 =>
  callF tys fns O (run tys fns O (n + 101)) 14 [.ptr 1 0] g9 fun y11 g11 =>
  bP (primBuild tys g11 32 (some [(0, bt true), (1, y5), (2, y9), (3, y11)])) fun y12 g12 =>
  bP (primAlloc tys g12 32) fun y13 g13 =>
  bP (primStore tys g13 32 (some y13) (some y12)) fun y14 g14 =>
  (seqK (fun st' => evC tys e8 (.seq (.seq r8_6 (.seq r8_7 (.cond (.tmp 37) (.seq r8_8 .ret) .skip))) (.seq r8_9 .ret)) (callF tys fns O (run tys fns O (n + 101))) (run tys fns O (n + 101)) st' (endK tys e8.fn (dataK k hp))) (endK tys e8.fn (dataK k hp))) .normal ⟨[(2, .ptr 0 0), (6, .ptr 1 0), (7, y13)], g14⟩)))) = k (.tup [rp0, i 26]) hp := by kernel_rfl
theorem fin8a_7 (O : Orc) (n : Nat) (d0 d1 d2 d3 d4 d5 d6 : UInt8) (hp : Hp) (k : PV → Hp → Option R) :
    run tys fns O (n + 100) e22 l22_0 ⟨[(0, .ptr 1 0), (1, .bnd 23 [.ptr 1 0]), (5, .row 5 0 1 1 4), (6, i 0)], ⟨[(5, ⟨[(sb []), (i 0), nl, (i 0)], 4, true, 0⟩), (4, ⟨[(sb []), (i 0), nl, (i 0)], 4, false, 0⟩), (3, ⟨[nl, (i 0)], 2, false, 0⟩), (2, ⟨[(sb []), (i 0), nl, (i 0)], 4, false, 0⟩), (1, rd [1, d0, d1, d2, d3, d4, d5, d6] 8 26), (0, ⟨[bt false, nl, nl, sb [], bt false, nl], 6, false, 0⟩)], 6, []⟩⟩ (blockK 0 (seqK (fun st' => evC tys e22 (.seq r22_6 .ret) (callF tys fns O (run tys fns O (n + 100))) (run tys fns O (n + 100)) st' (endK tys e22.fn (fun y5 g5 =>
  callF tys fns O (run tys fns O (n + 101)) 24 [.ptr 1 0, (.bnd 25 [.ptr 1 0])] g5 fun y9 g9 =>
  callF tys fns O (run tys fns O (n + 101)) 14 [.ptr 1 0] g9 fun y11 g11 =>
  bP (primBuild tys g11 32 (some [(0, bt true), (1, y5), (2, y9), (3, y11)])) fun y12 g12 =>
  bP (primAlloc tys g12 32) fun y13 g13 =>
  bP (primStore tys g13 32 (some y13) (some y12)) fun y14 g14 =>
  (seqK (fun st' => evC tys e8 (.seq (.seq r8_6 (.seq r8_7 (.cond (.tmp 37) (.seq r8_8 .ret) .skip))) (.seq r8_9 .ret)) (callF tys fns O (run tys fns O (n + 101))) (run tys fns O (n + 101)) st' (endK tys e8.fn (dataK k hp))) (endK tys e8.fn (dataK k hp))) .normal ⟨[(2, .ptr 0 0), (6, .ptr 1 0), (7, y13)], g14⟩))) (endK tys e22.fn (fun y5 g5 =>
  callF tys fns O (run tys fns O (n + 101)) 24 [.ptr 1 0, (.bnd 25 [.ptr 1 0])] g5 fun y9 g9 =>
  callF tys fns O (run tys fns O (n + 101)) 14 [.ptr 1 0] g9 fun y11 g11 =>
  bP (primBuild tys g11 32 (some [(0, bt true), (1, y5), (2, y9), (3, y11)])) fun y12 g12 =>
  bP (primAlloc tys g12 32) fun y13 g13 =>
  bP (primStore tys g13 32 (some y13) (some y12)) fun y14 g14 =>
  (seqK (fun st' => evC tys e8 (.seq (.seq r8_6 (.seq r8_7 (.cond (.tmp 37) (.seq r8_8 .ret) .skip))) (.seq r8_9 .ret)) (callF tys fns O (run tys fns O (n + 101))) (run tys fns O (n + 101)) st' (endK tys e8.fn (dataK k hp))) (endK tys e8.fn (dataK k hp))) .normal ⟨[(2, .ptr 0 0), (6, .ptr 1 0), (7, y13)], g14⟩)))) = k (.tup [rp0, i 26]) hp := by kernel_rfl
theorem fin8a_8 (O : Orc) (n : Nat) (d0 d1 d2 d3 d4 d5 d6 d7 : UInt8) (hp : Hp) (k : PV → Hp → Option R) :
    run tys fns O (n + 100) e22 l22_0 ⟨[(0, .ptr 1 0), (1, .bnd 23 [.ptr 1 0]), (5, .row 5 0 1 1 4), (6, i 0)], ⟨[(5, ⟨[(sb []), (i 0), nl, (i 0)], 4, true, 0⟩), (4, ⟨[(sb []), (i 0), nl, (i 0)], 4, false, 0⟩), (3, ⟨[nl, (i 0)], 2, false, 0⟩), (2, ⟨[(sb []), (i 0), nl, (i 0)], 4, false, 0⟩), (1, rd [1, d0, d1, d2, d3, d4, d5, d6, d7] 9 26), (0, ⟨[bt false, nl, nl, sb [], bt false, nl], 6, false, 0⟩)], 6, []⟩⟩ (blockK 0 (seqK (fun st' => evC tys e22 (.seq r22_6 .ret) (callF tys fns O (run tys fns O (n + 100))) (run tys fns O (n + 100)) st' (endK tys e22.fn (fun y5 g5 =>
  callF tys fns O (run tys fns O (n + 101)) 24 [.ptr 1 0, (.bnd 25 [.ptr 1 0])] g5 fun y9 g9 =>
  callF tys fns O (run tys fns O (n + 101)) 14 [.ptr 1 0] g9 fun y11 g11 =>
  bP (primBuild tys g11 32 (some [(0, bt true), (1, y5), (2, y9), (3, y11)])) fun y12 g12 =>
  bP (primAlloc tys g12 32) fun y13 g13 =>
  bP (primStore tys g13 32 (some y13) (some y12)) fun y14 g14 =>
  (seqK (fun st' => evC tys e8 (.seq (.seq r8_6 (.seq r8_7 (.cond (.tmp 37) (.seq r8_8 .ret) .skip))) (.seq r8_9 .ret)) (callF tys fns O (run tys fns O (n + 101))) (run tys fns O (n + 101)) st' (endK tys e8.fn (dataK k hp))) (endK tys e8.fn (dataK k hp))) .normal ⟨[(2, .ptr 0 0), (6, .ptr 1 0), (7, y13)], g14⟩))) (endK tys e22.fn (fun y5 g5 =>
  callF tys fns O (run tys fns O (n + 101)) 24 [.ptr 1 0, (.bnd 25 [.ptr 1 0])] g5 fun y9 g9 =>
  callF tys fns O (run tys fns O (n + 101)) 14 [.ptr 1 0] g9 fun y11 g11 =>
  bP (primBuild tys g11 32 (some [(0, bt true), (1, y5), (2, y9), (3, y11)])) fun y12 g12 =>
  bP (primAlloc tys g12 32) fun y13 g13 =>
  bP (primStore tys g13 32 (some y13) (some y12)) fun y14 g14 =>
  (seqK (fun st' => evC tys e8 (.seq (.seq r8_6 (.seq r8_7 (.cond (.tmp 37) (.seq r8_8 .ret) .skip))) (.seq r8_9 .ret)) (callF tys fns O (run tys fns O (n + 101))) (run tys fns O (n + 101)) st' (endK tys e8.fn (dataK k hp))) (endK tys e8.fn (dataK k hp))) .normal ⟨[(2, .ptr 0 0), (6, .ptr 1 0), (7, y13)], g14⟩)))) = k (.tup [rp0, i 26]) hp := by kernel_rfl
theorem fin8a_9 (O : Orc) (n : Nat) (d0 d1 d2 d3 d4 d5 d6 d7 d8 : UInt8) (hp : Hp) (k : PV → Hp → Option R) :
    run tys fns O (n + 100) e22 l22_0 ⟨[(0, .ptr 1 0), (1, .bnd 23 [.ptr 1 0]), (5, .row 5 0 1 1 4), (6, i 0)], ⟨[(5, ⟨[(sb []), (i 0), nl, (i 0)], 4, true, 0⟩), (4, ⟨[(sb []), (i 0), nl, (i 0)], 4, false, 0⟩), (3, ⟨[nl, (i 0)], 2, false, 0⟩), (2, ⟨[(sb []), (i 0), nl, (i 0)], 4, false, 0⟩), (1, rd [1, d0, d1, d2, d3, d4, d5, d6, d7, d8] 10 26), (0, ⟨[bt false, nl, nl, sb [], bt false, nl], 6, false, 0⟩)], 6, []⟩⟩ (blockK 0 (seqK (fun st' => evC tys e22 (.seq r22_6 .ret) (callF tys fns O (run tys fns O (n + 100))) (run tys fns O (n + 100)) st' (endK tys e22.fn (fun y5 g5 =>
  callF tys fns O (run tys fns O (n + 101)) 24 [.ptr 1 0, (.bnd 25 [.ptr 1 0])] g5 fun y9 g9 =>
  callF tys fns O (run tys fns O (n + 101)) 14 [.ptr 1 0] g9 fun y11 g11 =>
  bP (primBuild tys g11 32 (some [(0, bt true), (1, y5), (2, y9), (3, y11)])) fun y12 g12 =>
  bP (primAlloc tys g12 32) fun y13 g13 =>
  bP (primStore tys g13 32 (some y13) (some y12)) fun y14 g14 =>
  (seqK (fun st' => evC tys e8 (.seq (.seq r8_6 (.seq r8_7 (.cond (.tmp 37) (.seq r8_8 .ret) .skip))) (.seq r8_9 .ret)) (callF tys fns O (run tys fns O (n + 101))) (run tys fns O (n + 101)) st' (endK tys e8.fn (dataK k hp))) (endK tys e8.fn (dataK k hp))) .normal ⟨[(2, .ptr 0 0), (6, .ptr 1 0), (7, y13)], g14⟩))) (endK tys e22.fn (fun y5 g5 =>
  callF tys fns O (run tys fns O (n + 101)) 24 [.ptr 1 0, (.bnd 25 [.ptr 1 0])] g5 fun y9 g9 =>
  callF tys fns O (run tys fns O (n + 101)) 14 [.ptr 1 0] g9 fun y11 g11 =>
  bP (primBuild tys g11 32 (some [(0, bt true), (1, y5), (2, y9), (3, y11)])) fun y12 g12 =>
  bP (primAlloc tys g12 32) fun y13 g13 =>
  bP (primStore tys g13 32 (some y13) (some y12)) fun y14 g14 =>
  (seqK (fun st' => evC tys e8 (.seq (.seq r8_6 (.seq r8_7 (.cond (.tmp 37) (.seq r8_8 .ret) .skip))) (.seq r8_9 .ret)) (callF tys fns O (run tys fns O (n + 101))) (run tys fns O (n + 101)) st' (endK tys e8.fn (dataK k hp))) (endK tys e8.fn (dataK k hp))) .normal ⟨[(2, .ptr 0 0), (6, .ptr 1 0), (7, y13)], g14⟩)))) = k (.tup [rp0, i 26]) hp := by kernel_rfl
theorem fin8a_10 (O : Orc) (n : Nat) (d0 d1 d2 d3 d4 d5 d6 d7 d8 d9 : UInt8) (hp : Hp) (k : PV → Hp → Option R) :
    run tys fns O (n + 100) e22 l22_0 ⟨[(0, .ptr 1 0), (1, .bnd 23 [.ptr 1 0]), (5, .row 5 0 1 1 4), (6, i 0)], ⟨[(5, ⟨[(sb []), (i 0), nl, (i 0)], 4, true, 0⟩), (4, ⟨[(sb []), (i 0), nl, (i 0)], 4, false, 0⟩), (3, ⟨[nl, (i 0)], 2, false, 0⟩), (2, ⟨[(sb []), (i 0), nl, (i 0)], 4, false, 0⟩), (1, rd [1, d0, d1, d2, d3, d4, d5, d6, d7, d8, d9] 11 26), (0, ⟨[bt false, nl, nl, sb [], bt false, nl], 6, false, 0⟩)], 6, []⟩⟩ (blockK 0 (seqK (fun st' => evC tys e22 (.seq r22_6 .ret) (callF tys fns O (run tys fns O (n + 100))) (run tys fns O (n + 100)) st' (endK tys e22.fn (fun y5 g5 =>
  callF tys fns O (run tys fns O (n + 101)) 24 [.ptr 1 0, (.bnd 25 [.ptr 1 0])] g5 fun y9 g9 =>
  callF tys fns O (run tys fns O (n + 101)) 14 [.ptr 1 0] g9 fun y11 g11 =>
  bP (primBuild tys g11 32 (some [(0, bt true), (1, y5), (2, y9), (3, y11)])) fun y12 g12 =>
  bP (primAlloc tys g12 32) fun y13 g13 =>
  bP (primStore tys g13 32 (some y13) (some y12)) fun y14 g14 =>
  (seqK (fun st' => evC tys e8 (.seq (.seq r8_6 (.seq r8_7 (.cond (.tmp 37) (.seq r8_8 .ret) .skip))) (.seq r8_9 .ret)) (callF tys fns O (run tys fns O (n + 101))) (run tys fns O (n + 101)) st' (endK tys e8.fn (dataK k hp))) (endK tys e8.fn (dataK k hp))) .normal ⟨[(2, .ptr 0 0), (6, .ptr 1 0), (7, y13)], g14⟩))) (endK tys e22.fn (fun y5 g5 =>
  callF tys fns O (run tys fns O (n + 101)) 24 [.ptr 1 0, (.bnd 25 [.ptr 1 0])] g5 fun y9 g9 =>
  callF tys fns O (run tys fns O (n + 101)) 14 [.ptr 1 0] g9 fun y11 g11 =>
  bP (primBuild tys g11 32 (some [(0, bt true), (1, y5), (2, y9), (3, y11)])) fun y12 g12 =>
  bP (primAlloc tys g12 32) fun y13 g13 =>
  bP (primStore tys g13 32 (some y13) (some y12)) fun y14 g14 =>
  (seqK (fun st' => evC tys e8 (.seq (.seq r8_6 (.seq r8_7 (.cond (.tmp 37) (.seq r8_8 .ret) .skip))) (.seq r8_9 .ret)) (callF tys fns O (run tys fns O (n + 101))) (run tys fns O (n + 101)) st' (endK tys e8.fn (dataK k hp))) (endK tys e8.fn (dataK k hp))) .normal ⟨[(2, .ptr 0 0), (6, .ptr 1 0), (7, y13)], g14⟩)))) = k (.tup [rp0, i 26]) hp := by kernel_rfl
theorem fin8a (O : Orc) (n : Nat) (l : List UInt8) (h1 : 1 ≤ l.length) (h2 : l.length ≤ 10) (hp : Hp) (k : PV → Hp → Option R) :
    run tys fns O (n + 100) e22 l22_0 ⟨[(0, .ptr 1 0), (1, .bnd 23 [.ptr 1 0]), (5, .row 5 0 1 1 4), (6, i 0)], ⟨[(5, ⟨[(sb []), (i 0), nl, (i 0)], 4, true, 0⟩), (4, ⟨[(sb []), (i 0), nl, (i 0)], 4, false, 0⟩), (3, ⟨[nl, (i 0)], 2, false, 0⟩), (2, ⟨[(sb []), (i 0), nl, (i 0)], 4, false, 0⟩), (1, rd (1 :: l) (1 :: l).length 26), (0, ⟨[bt false, nl, nl, sb [], bt false, nl], 6, false, 0⟩)], 6, []⟩⟩ (blockK 0 (seqK (fun st' => evC tys e22 (.seq r22_6 .ret) (callF tys fns O (run tys fns O (n + 100))) (run tys fns O (n + 100)) st' (endK tys e22.fn (fun y5 g5 =>
  callF tys fns O (run tys fns O (n + 101)) 24 [.ptr 1 0, (.bnd 25 [.ptr 1 0])] g5 fun y9 g9 =>
  callF tys fns O (run tys fns O (n + 101)) 14 [.ptr 1 0] g9 fun y11 g11 =>
  bP (primBuild tys g11 32 (some [(0, bt true), (1, y5), (2, y9), (3, y11)])) fun y12 g12 =>
  bP (primAlloc tys g12 32) fun y13 g13 =>
  bP (primStore tys g13 32 (some y13) (some y12)) fun y14 g14 =>
  (seqK (fun st' => evC tys e8 (.seq (.seq r8_6 (.seq r8_7 (.cond (.tmp 37) (.seq r8_8 .ret) .skip))) (.seq r8_9 .ret)) (callF tys fns O (run tys fns O (n + 101))) (run tys fns O (n + 101)) st' (endK tys e8.fn (dataK k hp))) (endK tys e8.fn (dataK k hp))) .normal ⟨[(2, .ptr 0 0), (6, .ptr 1 0), (7, y13)], g14⟩))) (endK tys e22.fn (fun y5 g5 =>
  callF tys fns O (run tys fns O (n + 101)) 24 [.ptr 1 0, (.bnd 25 [.ptr 1 0])] g5 fun y9 g9 =>
  callF tys fns O (run tys fns O (n + 101)) 14 [.ptr 1 0] g9 fun y11 g11 =>
  bP (primBuild tys g11 32 (some [(0, bt true), (1, y5), (2, y9), (3, y11)])) fun y12 g12 =>
  bP (primAlloc tys g12 32) fun y13 g13 =>
  bP (primStore tys g13 32 (some y13) (some y12)) fun y14 g14 =>
  (seqK (fun st' => evC tys e8 (.seq (.seq r8_6 (.seq r8_7 (.cond (.tmp 37) (.seq r8_8 .ret) .skip))) (.seq r8_9 .ret)) (callF tys fns O (run tys fns O (n + 101))) (run tys fns O (n + 101)) st' (endK tys e8.fn (dataK k hp))) (endK tys e8.fn (dataK k hp))) .normal ⟨[(2, .ptr 0 0), (6, .ptr 1 0), (7, y13)], g14⟩)))) = k (.tup [rp0, i 26]) hp := by
  match l, h1, h2 with
  | [d0], _, _ => exact fin8a_1 O n d0 hp k
  | [d0, d1], _, _ => exact fin8a_2 O n d0 d1 hp k
  | [d0, d1, d2], _, _ => exact fin8a_3 O n d0 d1 d2 hp k
  | [d0, d1, d2, d3], _, _ => exact fin8a_4 O n d0 d1 d2 d3 hp k
  | [d0, d1, d2, d3, d4], _, _ => exact fin8a_5 O n d0 d1 d2 d3 d4 hp k
  | [d0, d1, d2, d3, d4, d5], _, _ => exact fin8a_6 O n d0 d1 d2 d3 d4 d5 hp k
  | [d0, d1, d2, d3, d4, d5, d6], _, _ => exact fin8a_7 O n d0 d1 d2 d3 d4 d5 d6 hp k
  | [d0, d1, d2, d3, d4, d5, d6, d7], _, _ => exact fin8a_8 O n d0 d1 d2 d3 d4 d5 d6 d7 hp k
  | [d0, d1, d2, d3, d4, d5, d6, d7, d8], _, _ => exact fin8a_9 O n d0 d1 d2 d3 d4 d5 d6 d7 d8 hp k
  | [d0, d1, d2, d3, d4, d5, d6, d7, d8, d9], _, _ => exact fin8a_10 O n d0 d1 d2 d3 d4 d5 d6 d7 d8 d9 hp k
  | _ :: _ :: _ :: _ :: _ :: _ :: _ :: _ :: _ :: _ :: _ :: _, _, h => exact absurd h (by simp)
theorem fin8b_1 (O : Orc) (n : Nat) (m : Nat) (d0 : UInt8) (hp : Hp) (k : PV → Hp → Option R) :
    run tys fns O (n + 100) e22 l22_0 ⟨[(0, .ptr 1 0), (1, .bnd 23 [.ptr 1 0]), (5, .row 5 0 1 1 4), (6, .v (.int .i64 (.ofNat (m + 1))))], ⟨[(5, ⟨[(sb []), (i 0), nl, (i 0)], 4, true, 0⟩), (4, ⟨[(sb []), (i 0), nl, (i 0)], 4, false, 0⟩), (3, ⟨[nl, (i 0)], 2, false, 0⟩), (2, ⟨[(sb []), (i 0), nl, (i 0)], 4, false, 0⟩), (1, rd [1, d0] 2 26), (0, ⟨[bt false, nl, nl, sb [], bt false, nl], 6, false, 0⟩)], 6, []⟩⟩ (blockK 0 (seqK (fun st' => evC tys e22 (.seq r22_6 .ret) (callF tys fns O (run tys fns O (n + 100))) (run tys fns O (n + 100)) st' (endK tys e22.fn (fun y5 g5 =>
  callF tys fns O (run tys fns O (n + 101)) 24 [.ptr 1 0, (.bnd 25 [.ptr 1 0])] g5 fun y9 g9 =>
  callF tys fns O (run tys fns O (n + 101)) 14 [.ptr 1 0] g9 fun y11 g11 =>
  bP (primBuild tys g11 32 (some [(0, bt true), (1, y5), (2, y9), (3, y11)])) fun y12 g12 =>
  bP (primAlloc tys g12 32) fun y13 g13 =>
  bP (primStore tys g13 32 (some y13) (some y12)) fun y14 g14 =>
  (seqK (fun st' => evC tys e8 (.seq (.seq r8_6 (.seq r8_7 (.cond (.tmp 37) (.seq r8_8 .ret) .skip))) (.seq r8_9 .ret)) (callF tys fns O (run tys fns O (n + 101))) (run tys fns O (n + 101)) st' (endK tys e8.fn (dataK k hp))) (endK tys e8.fn (dataK k hp))) .normal ⟨[(2, .ptr 0 0), (6, .ptr 1 0), (7, y13)], g14⟩))) (endK tys e22.fn (fun y5 g5 =>
  callF tys fns O (run tys fns O (n + 101)) 24 [.ptr 1 0, (.bnd 25 [.ptr 1 0])] g5 fun y9 g9 =>
  callF tys fns O (run tys fns O (n + 101)) 14 [.ptr 1 0] g9 fun y11 g11 =>
  bP (primBuild tys g11 32 (some [(0, bt true), (1, y5), (2, y9), (3, y11)])) fun y12 g12 =>
  bP (primAlloc tys g12 32) fun y13 g13 =>
  bP (primStore tys g13 32 (some y13) (some y12)) fun y14 g14 =>
  (seqK (fun st' => evC tys e8 (.seq (.seq r8_6 (.seq r8_7 (.cond (.tmp 37) (.seq r8_8 .ret) .skip))) (.seq r8_9 .ret)) (callF tys fns O (run tys fns O (n + 101))) (run tys fns O (n + 101)) st' (endK tys e8.fn (dataK k hp))) (endK tys e8.fn (dataK k hp))) .normal ⟨[(2, .ptr 0 0), (6, .ptr 1 0), (7, y13)], g14⟩)))) = k (.tup [rp0, i 26]) hp := by kernel_rfl
theorem fin8b_2 (O : Orc) (n : Nat) (m : Nat) (d0 d1 : UInt8) (hp : Hp) (k : PV → Hp → Option R) :
    run tys fns O (n + 100) e22 l22_0 ⟨[(0, .ptr 1 0), (1, .bnd 23 [.ptr 1 0]), (5, .row 5 0 1 1 4), (6, .v (.int .i64 (.ofNat (m + 1))))], ⟨[(5, ⟨[(sb []), (i 0), nl, (i 0)], 4, true, 0⟩), (4, ⟨[(sb []), (i 0), nl, (i 0)], 4, false, 0⟩), (3, ⟨[nl, (i 0)], 2, false, 0⟩), (2, ⟨[(sb []), (i 0), nl, (i 0)], 4, false, 0⟩), (1, rd [1, d0, d1] 3 26), (0, ⟨[bt false, nl, nl, sb [], bt false, nl], 6, false, 0⟩)], 6, []⟩⟩ (blockK 0 (seqK (fun st' => evC tys e22 (.seq r22_6 .ret) (callF tys fns O (run tys fns O (n + 100))) (run tys fns O (n + 100)) st' (endK tys e22.fn (fun y5 g5 =>
  callF tys fns O (run tys fns O (n + 101)) 24 [.ptr 1 0, (.bnd 25 [.ptr 1 0])] g5 fun y9 g9 =>
  callF tys fns O (run tys fns O (n + 101)) 14 [.ptr 1 0] g9 fun y11 g11 =>
  bP (primBuild tys g11 32 (some [(0, bt true), (1, y5), (2, y9), (3, y11)])) fun y12 g12 =>
  bP (primAlloc tys g12 32) fun y13 g13 =>
  bP (primStore tys g13 32 (some y13) (some y12)) fun y14 g14 =>
  (seqK (fun st' => evC tys e8 (.seq (.seq r8_6 (.seq r8_7 (.cond (.tmp 37) (.seq r8_8 .ret) .skip))) (.seq r8_9 .ret)) (callF tys fns O (run tys fns O (n + 101))) (run tys fns O (n + 101)) st' (endK tys e8.fn (dataK k hp))) (endK tys e8.fn (dataK k hp))) .normal ⟨[(2, .ptr 0 0), (6, .ptr 1 0), (7, y13)], g14⟩))) (endK tys e22.fn (fun y5 g5 =>
  callF tys fns O (run tys fns O (n + 101)) 24 [.ptr 1 0, (.bnd 25 [.ptr 1 0])] g5 fun y9 g9 =>
  callF tys fns O (run tys fns O (n + 101)) 14 [.ptr 1 0] g9 fun y11 g11 =>
  bP (primBuild tys g11 32 (some [(0, bt true), (1, y5), (2, y9), (3, y11)])) fun y12 g12 =>
  bP (primAlloc tys g12 32) fun y13 g13 =>
  bP (primStore tys g13 32 (some y13) (some y12)) fun y14 g14 =>
  (seqK (fun st' => evC tys e8 (.seq (.seq r8_6 (.seq r8_7 (.cond (.tmp 37) (.seq r8_8 .ret) .skip))) (.seq r8_9 .ret)) (callF tys fns O (run tys fns O (n + 101))) (run tys fns O (n + 101)) st' (endK tys e8.fn (dataK k hp))) (endK tys e8.fn (dataK k hp))) .normal ⟨[(2, .ptr 0 0), (6, .ptr 1 0), (7, y13)], g14⟩)))) = k (.tup [rp0, i 26]) hp := by kernel_rfl
theorem fin8b_3 (O : Orc) (n : Nat) (m : Nat) (d0 d1 d2 : UInt8) (hp : Hp) (k : PV → Hp → Option R) :
    run tys fns O (n + 100) e22 l22_0 ⟨[(0, .ptr 1 0), (1, .bnd 23 [.ptr 1 0]), (5, .row 5 0 1 1 4), (6, .v (.int .i64 (.ofNat (m + 1))))], ⟨[(5, ⟨[(sb []), (i 0), nl, (i 0)], 4, true, 0⟩), (4, ⟨[(sb []), (i 0), nl, (i 0)], 4, false, 0⟩), (3, ⟨[nl, (i 0)], 2, false, 0⟩), (2, ⟨[(sb []), (i 0), nl, (i 0)], 4, false, 0⟩), (1, rd [1, d0, d1, d2] 4 26), (0, ⟨[bt false, nl, nl, sb [], bt false, nl], 6, false, 0⟩)], 6, []⟩⟩ (blockK 0 (seqK (fun st' => evC tys e22 (.seq r22_6 .ret) (callF tys fns O (run tys fns O (n + 100))) (run tys fns O (n + 100)) st' (endK tys e22.fn (fun y5 g5 =>
  callF tys fns O (run tys fns O (n + 101)) 24 [.ptr 1 0, (.bnd 25 [.ptr 1 0])] g5 fun y9 g9 =>
  callF tys fns O (run tys fns O (n + 101)) 14 [.ptr 1 0] g9 fun y11 g11 =>
  bP (primBuild tys g11 32 (some [(0, bt true), (1, y5), (2, y9), (3, y11)])) fun y12 g12 =>
  bP (primAlloc tys g12 32) fun y13 g13 =>
  bP (primStore tys g13 32 (some y13) (some y12)) fun y14 g14 =>
  (seqK (fun st' => evC tys e8 (.seq (.seq r8_6 (.seq r8_7 (.cond (.tmp 37) (.seq r8_8 .ret) .skip))) (.seq r8_9 .ret)) (callF tys fns O (run tys fns O (n + 101))) (run tys fns O (n + 101)) st' (endK tys e8.fn (dataK k hp))) (endK tys e8.fn (dataK k hp))) .normal ⟨[(2, .ptr 0 0), (6, .ptr 1 0), (7, y13)], g14⟩))) (endK tys e22.fn (fun y5 g5 =>
  callF tys fns O (run tys fns O (n + 101)) 24 [.ptr 1 0, (.bnd 25 [.ptr 1 0])] g5 fun y9 g9 =>
  callF tys fns O (run tys fns O (n + 101)) 14 [.ptr 1 0] g9 fun y11 g11 =>
  bP (primBuild tys g11 32 (some [(0, bt true), (1, y5), (2, y9), (3, y11)])) fun y12 g12 =>
  bP (primAlloc tys g12 32) fun y13 g13 =>
  bP (primStore tys g13 32 (some y13) (some y12)) fun y14 g14 =>
  (seqK (fun st' => evC tys e8 (.seq (.seq r8_6 (.seq r8_7 (.cond (.tmp 37) (.seq r8_8 .ret) .skip))) (.seq r8_9 .ret)) (callF tys fns O (run tys fns O (n + 101))) (run tys fns O (n + 101)) st' (endK tys e8.fn (dataK k hp))) (endK tys e8.fn (dataK k hp))) .normal ⟨[(2, .ptr 0 0), (6, .ptr 1 0), (7, y13)], g14⟩)))) = k (.tup [rp0, i 26]) hp := by kernel_rfl
theorem fin8b_4 (O : Orc) (n : Nat) (m : Nat) (d0 d1 d2 d3 : UInt8) (hp : Hp) (k : PV → Hp → Option R) :
    run tys fns O (n + 100) e22 l22_0 ⟨[(0, .ptr 1 0), (1, .bnd 23 [.ptr 1 0]), (5, .row 5 0 1 1 4), (6, .v (.int .i64 (.ofNat (m + 1))))], ⟨[(5, ⟨[(sb []), (i 0), nl, (i 0)], 4, true, 0⟩), (4, ⟨[(sb []), (i 0), nl, (i 0)], 4, false, 0⟩), (3, ⟨[nl, (i 0)], 2, false, 0⟩), (2, ⟨[(sb []), (i 0), nl, (i 0)], 4, false, 0⟩), (1, rd [1, d0, d1, d2, d3] 5 26), (0, ⟨[bt false, nl, nl, sb [], bt false, nl], 6, false, 0⟩)], 6, []⟩⟩ (blockK 0 (seqK (fun st' => evC tys e22 (.seq r22_6 .ret) (callF tys fns O (run tys fns O (n + 100))) (run tys fns O (n + 100)) st' (endK tys e22.fn (fun y5 g5 =>
  callF tys fns O (run tys fns O (n + 101)) 24 [.ptr 1 0, (.bnd 25 [.ptr 1 0])] g5 fun y9 g9 =>
  callF tys fns O (run tys fns O (n + 101)) 14 [.ptr 1 0] g9 fun y11 g11 =>
  bP (primBuild tys g11 32 (some [(0, bt true), (1, y5), (2, y9), (3, y11)])) fun y12 g12 =>
  bP (primAlloc tys g12 32) fun y13 g13 =>
  bP (primStore tys g13 32 (some y13) (some y12)) fun y14 g14 =>
  (seqK (fun st' => evC tys e8 (.seq (.seq r8_6 (.seq r8_7 (.cond (.tmp 37) (.seq r8_8 .ret) .skip))) (.seq r8_9 .ret)) (callF tys fns O (run tys fns O (n + 101))) (run tys fns O (n + 101)) st' (endK tys e8.fn (dataK k hp))) (endK tys e8.fn (dataK k hp))) .normal ⟨[(2, .ptr 0 0), (6, .ptr 1 0), (7, y13)], g14⟩))) (endK tys e22.fn (fun y5 g5 =>
  callF tys fns O (run tys fns O (n + 101)) 24 [.ptr 1 0, (.bnd 25 [.ptr 1 0])] g5 fun y9 g9 =>
  callF tys fns O (run tys fns O (n + 101)) 14 [.ptr 1 0] g9 fun y11 g11 =>
  bP (primBuild tys g11 32 (some [(0, bt true), (1, y5), (2, y9), (3, y11)])) fun y12 g12 =>
  bP (primAlloc tys g12 32) fun y13 g13 =>
  bP (primStore tys g13 32 (some y13) (some y12)) fun y14 g14 =>
  (seqK (fun st' => evC tys e8 (.seq (.seq r8_6 (.seq r8_7 (.cond (.tmp 37) (.seq r8_8 .ret) .skip))) (.seq r8_9 .ret)) (callF tys fns O (run tys fns O (n + 101))) (run tys fns O (n + 101)) st' (endK tys e8.fn (dataK k hp))) (endK tys e8.fn (dataK k hp))) .normal ⟨[(2, .ptr 0 0), (6, .ptr 1 0), (7, y13)], g14⟩)))) = k (.tup [rp0, i 26]) hp := by kernel_rfl
theorem fin8b_5 (O : Orc) (n : Nat) (m : Nat) (d0 d1 d2 d3 d4 : UInt8) (hp : Hp) (k : PV → Hp → Option R) :
    run tys fns O (n + 100) e22 l22_0 ⟨[(0, .ptr 1 0), (1, .bnd 23 [.ptr 1 0]), (5, .row 5 0 1 1 4), (6, .v (.int .i64 (.ofNat (m + 1))))], ⟨[(5, ⟨[(sb []), (i 0), nl, (i 0)], 4, true, 0⟩), (4, ⟨[(sb []), (i 0), nl, (i 0)], 4, false, 0⟩), (3, ⟨[nl, (i 0)], 2, false, 0⟩), (2, ⟨[(sb []), (i 0), nl, (i 0)], 4, false, 0⟩), (1, rd [1, d0, d1, d2, d3, d4] 6 26), (0, ⟨[bt false, nl, nl, sb [], bt false, nl], 6, false, 0⟩)], 6, []⟩⟩ (blockK 0 (seqK (fun st' => evC tys e22 (.seq r22_6 .ret) (callF tys fns O (run tys fns O (n + 100))) (run tys fns O (n + 100)) st' (endK tys e22.fn (fun y5 g5 =>
  callF tys fns O (run tys fns O (n + 101)) 24 [.ptr 1 0, (.bnd 25 [.ptr 1 0])] g5 fun y9 g9 =>
  callF tys fns O (run tys fns O (n + 101)) 14 [.ptr 1 0] g9 fun y11 g11 =>
  bP (primBuild tys g11 32 (some [(0, bt true), (1, y5), (2, y9), (3, y11)])) fun y12 g12 =>
  bP (primAlloc tys g12 32) fun y13 g13 =>
  bP (primStore tys g13 32 (some y13) (some y12)) fun y14 g14 =>
  (seqK (fun st' => evC tys e8 (.seq (.seq r8_6 (.seq r8_7 (.cond (.tmp 37) (.seq r8_8 .ret) .skip))) (.seq r8_9 .ret)) (callF tys fns O (run tys fns O (n + 101))) (run tys fns O (n + 101)) st' (endK tys e8.fn (dataK k hp))) (endK tys e8.fn (dataK k hp))) .normal ⟨[(2, .ptr 0 0), (6, .ptr 1 0), (7, y13)], g14⟩))) (endK tys e22.fn (fun y5 g5 =>
  callF tys fns O (run tys fns O (n + 101)) 24 [.ptr 1 0, (.bnd 25 [.ptr 1 0])] g5 fun y9 g9 =>
  callF tys fns O (run tys fns O (n + 101)) 14 [.ptr 1 0] g9 fun y11 g11 =>
  bP (primBuild tys g11 32 (some [(0, bt true), (1, y5), (2, y9), (3, y11)])) fun y12 g12 =>
  bP (primAlloc tys g12 32) fun y13 g13 =>
  bP (primStore tys g13 32 (some y13) (some y12)) fun y14 g14 =>
  (seqK (fun st' => evC tys e8 (.seq (.seq r8_6 (.seq r8_7 (.cond (.tmp 37) (.seq r8_8 .ret) .skip))) (.seq r8_9 .ret)) (callF tys fns O (run tys fns O (n + 101))) (run tys fns O (n + 101)) st' (endK tys e8.fn (dataK k hp))) (endK tys e8.fn (dataK k hp))) .normal ⟨[(2, .ptr 0 0), (6, .ptr 1 0), (7, y13)], g14⟩)))) = k (.tup [rp0, i 26]) hp := by kernel_rfl
theorem fin8b_6 (O : Orc) (n : Nat) (m : Nat) (d0 d1 d2 d3 d4 d5 : UInt8) (hp : Hp) (k : PV → Hp → Option R) :
    run tys fns O (n + 100) e22 l22_0 ⟨[(0, .ptr 1 0), (1, .bnd 23 [.ptr 1 0]), (5, .row 5 0 1 1 4), (6, .v (.int .i64 (.ofNat (m + 1))))], ⟨[(5, ⟨[(sb []), (i 0), nl, (i 0)], 4, true, 0⟩), (4, ⟨[(sb []), (i 0), nl, (i 0)], 4, false, 0⟩), (3, ⟨[nl, (i 0)], 2, false, 0⟩), (2, ⟨[(sb []), (i 0), nl, (i 0)], 4, false, 0⟩), (1, rd [1, d0, d1, d2, d3, d4, d5] 7 26), (0, ⟨[bt false, nl, nl, sb [], bt false, nl], 6, false, 0⟩)], 6, []⟩⟩ (blockK 0 (seqK (fun st' => evC tys e22 (.seq r22_6 .ret) (callF tys fns O (run tys fns O (n + 100))) (run tys fns O (n + 100)) st' (endK tys e22.fn (fun y5 g5 =>
  callF tys fns O (run tys fns O (n + 101)) 24 [.ptr 1 0, (.bnd 25 [.ptr 1 0])] g5 fun y9 g9 =>
  callF tys fns O (run tys fns O (n + 101)) 14 [.ptr 1 0] g9 fun y11 g11 =>
  bP (primBuild tys g11 32 (some [(0, bt true), (1, y5), (2, y9), (3, y11)])) fun y12 g12 =>
  bP (primAlloc tys g12 32) fun y13 g13 =>
  bP (primStore tys g13 32 (some y13) (some y12)) fun y14 g14 =>
  (seqK (fun st' => evC tys e8 (.seq (.seq r8_6 (.seq r8_7 (.cond (.tmp 37) (.seq r8_8 .ret) .skip))) (.seq r8_9 .ret)) (callF tys fns O (run tys fns O (n + 101))) (run tys fns O (n + 101)) st' (endK tys e8.fn (dataK k hp))) (endK tys e8.fn (dataK k hp))) .normal ⟨[(2, .ptr 0 0), (6, .ptr 1 0), (7, y13)], g14⟩))) (endK tys e22.fn (fun y5 g5 =>
  callF tys fns O (run tys fns O (n + 101)) 24 [.ptr 1 0, (.bnd 25 [.ptr 1 0])] g5 fun y9 g9 =>
  callF tys fns O (run tys fns O (n + 101)) 14 [.ptr 1 0] g9 fun y11 g11 =>
  bP (primBuild tys g11 32 (some [(0, bt true), (1, y5), (2, y9), (3, y11)])) fun y12 g12 =>
  bP (primAlloc tys g12 32) fun y13 g13 =>
  bP (primStore tys g13 32 (some y13) (some y12)) fun y14 g14 =>
  (seqK (fun st' => evC tys e8 (.seq (.seq r8_6 (.seq r8_7 (.cond (.tmp 37) (.seq r8_8 .ret) .skip))) (.seq r8_9 .ret)) (callF tys fns O (run tys fns O (n + 101))) (run tys fns O (n + 101)) st' (endK tys e8.fn (dataK k hp))) (endK tys e8.fn (dataK k hp))) .normal ⟨[(2, .ptr 0 0), (6, .ptr 1 0), (7, y13)], g14⟩)))) = k (.tup [rp0, i 26]) hp := by kernel_rfl
theorem fin8b_7 (O : Orc) (n : Nat) (m : Nat) (d0 d1 d2 d3 d4 d5 d6 : UInt8) (hp : Hp) (k : PV → Hp → Option R) :
    run tys fns O (n + 100) e22 l22_0 ⟨[(0, .ptr 1 0), (1, .bnd 23 [.ptr 1 0]), (5, .row 5 0 1 1 4), (6, .v (.int .i64 (.ofNat (m + 1))))], ⟨[(5, ⟨[(sb []), (i 0), nl, (i 0)], 4, true, 0⟩), (4, ⟨[(sb []), (i 0), nl, (i 0)], 4, false, 0⟩), (3, ⟨[nl, (i 0)], 2, false, 0⟩), (2, ⟨[(sb []), (i 0), nl, (i 0)], 4, false, 0⟩), (1, rd [1, d0, d1, d2, d3, d4, d5, d6] 8 26), (0, ⟨[bt false, nl, nl, sb [], bt false, nl], 6, false, 0⟩)], 6, []⟩⟩ (blockK 0 (seqK (fun st' => evC tys e22 (.seq r22_6 .ret) (callF tys fns O (run tys fns O (n + 100))) (run tys fns O (n + 100)) st' (endK tys e22.fn (fun y5 g5 =>
  callF tys fns O (run tys fns O (n + 101)) 24 [.ptr 1 0, (.bnd 25 [.ptr 1 0])] g5 fun y9 g9 =>
  callF tys fns O (run tys fns O (n + 101)) 14 [.ptr 1 0] g9 fun y11 g11 =>
  bP (primBuild tys g11 32 (some [(0, bt true), (1, y5), (2, y9), (3, y11)])) fun y12 g12 =>
  bP (primAlloc tys g12 32) fun y13 g13 =>
  bP (primStore tys g13 32 (some y13) (some y12)) fun y14 g14 =>
  (seqK (fun st' => evC tys e8 (.seq (.seq r8_6 (.seq r8_7 (.cond (.tmp 37) (.seq r8_8 .ret) .skip))) (.seq r8_9 .ret)) (callF tys fns O (run tys fns O (n + 101))) (run tys fns O (n + 101)) st' (endK tys e8.fn (dataK k hp))) (endK tys e8.fn (dataK k hp))) .normal ⟨[(2, .ptr 0 0), (6, .ptr 1 0), (7, y13)], g14⟩))) (endK tys e22.fn (fun y5 g5 =>
  callF tys fns O (run tys fns O (n + 101)) 24 [.ptr 1 0, (.bnd 25 [.ptr 1 0])] g5 fun y9 g9 =>
  callF tys fns O (run tys fns O (n + 101)) 14 [.ptr 1 0] g9 fun y11 g11 =>
  bP (primBuild tys g11 32 (some [(0, bt true), (1, y5), (2, y9), (3, y11)])) fun y12 g12 =>
  bP (primAlloc tys g12 32) fun y13 g13 =>
  bP (primStore tys g13 32 (some y13) (some y12)) fun y14 g14 =>
  (seqK (fun st' => evC tys e8 (.seq (.seq r8_6 (.seq r8_7 (.cond (.tmp 37) (.seq r8_8 .ret) .skip))) (.seq r8_9 .ret)) (callF tys fns O (run tys fns O (n + 101))) (run tys fns O (n + 101)) st' (endK tys e8.fn (dataK k hp))) (endK tys e8.fn (dataK k hp))) .normal ⟨[(2, .ptr 0 0), (6, .ptr 1 0), (7, y13)], g14⟩)))) = k (.tup [rp0, i 26]) hp := by kernel_rfl
theorem fin8b_8 (O : Orc) (n : Nat) (m : Nat) (d0 d1 d2 d3 d4 d5 d6 d7 : UInt8) (hp : Hp) (k : PV → Hp → Option R) :
    run tys fns O (n + 100) e22 l22_0 ⟨[(0, .ptr 1 0), (1, .bnd 23 [.ptr 1 0]), (5, .row 5 0 1 1 4), (6, .v (.int .i64 (.ofNat (m + 1))))], ⟨[(5, ⟨[(sb []), (i 0), nl, (i 0)], 4, true, 0⟩), (4, ⟨[(sb []), (i 0), nl, (i 0)], 4, false, 0⟩), (3, ⟨[nl, (i 0)], 2, false, 0⟩), (2, ⟨[(sb []), (i 0), nl, (i 0)], 4, false, 0⟩), (1, rd [1, d0, d1, d2, d3, d4, d5, d6, d7] 9 26), (0, ⟨[bt false, nl, nl, sb [], bt false, nl], 6, false, 0⟩)], 6, []⟩⟩ (blockK 0 (seqK (fun st' => evC tys e22 (.seq r22_6 .ret) (callF tys fns O (run tys fns O (n + 100))) (run tys fns O (n + 100)) st' (endK tys e22.fn (fun y5 g5 =>
  callF tys fns O (run tys fns O (n + 101)) 24 [.ptr 1 0, (.bnd 25 [.ptr 1 0])] g5 fun y9 g9 =>
  callF tys fns O (run tys fns O (n + 101)) 14 [.ptr 1 0] g9 fun y11 g11 =>
  bP (primBuild tys g11 32 (some [(0, bt true), (1, y5), (2, y9), (3, y11)])) fun y12 g12 =>
  bP (primAlloc tys g12 32) fun y13 g13 =>
  bP (primStore tys g13 32 (some y13) (some y12)) fun y14 g14 =>
  (seqK (fun st' => evC tys e8 (.seq (.seq r8_6 (.seq r8_7 (.cond (.tmp 37) (.seq r8_8 .ret) .skip))) (.seq r8_9 .ret)) (callF tys fns O (run tys fns O (n + 101))) (run tys fns O (n + 101)) st' (endK tys e8.fn (dataK k hp))) (endK tys e8.fn (dataK k hp))) .normal ⟨[(2, .ptr 0 0), (6, .ptr 1 0), (7, y13)], g14⟩))) (endK tys e22.fn (fun y5 g5 =>
  callF tys fns O (run tys fns O (n + 101)) 24 [.ptr 1 0, (.bnd 25 [.ptr 1 0])] g5 fun y9 g9 =>
  callF tys fns O (run tys fns O (n + 101)) 14 [.ptr 1 0] g9 fun y11 g11 =>
  bP (primBuild tys g11 32 (some [(0, bt true), (1, y5), (2, y9), (3, y11)])) fun y12 g12 =>
  bP (primAlloc tys g12 32) fun y13 g13 =>
  bP (primStore tys g13 32 (some y13) (some y12)) fun y14 g14 =>
  (seqK (fun st' => evC tys e8 (.seq (.seq r8_6 (.seq r8_7 (.cond (.tmp 37) (.seq r8_8 .ret) .skip))) (.seq r8_9 .ret)) (callF tys fns O (run tys fns O (n + 101))) (run tys fns O (n + 101)) st' (endK tys e8.fn (dataK k hp))) (endK tys e8.fn (dataK k hp))) .normal ⟨[(2, .ptr 0 0), (6, .ptr 1 0), (7, y13)], g14⟩)))) = k (.tup [rp0, i 26]) hp := by kernel_rfl
theorem fin8b_9 (O : Orc) (n : Nat) (m : Nat) (d0 d1 d2 d3 d4 d5 d6 d7 d8 : UInt8) (hp : Hp) (k : PV → Hp → Option R) :
    run tys fns O (n + 100) e22 l22_0 ⟨[(0, .ptr 1 0), (1, .bnd 23 [.ptr 1 0]), (5, .row 5 0 1 1 4), (6, .v (.int .i64 (.ofNat (m + 1))))], ⟨[(5, ⟨[(sb []), (i 0), nl, (i 0)], 4, true, 0⟩), (4, ⟨[(sb []), (i 0), nl, (i 0)], 4, false, 0⟩), (3, ⟨[nl, (i 0)], 2, false, 0⟩), (2, ⟨[(sb []), (i 0), nl, (i 0)], 4, false, 0⟩), (1, rd [1, d0, d1, d2, d3, d4, d5, d6, d7, d8] 10 26), (0, ⟨[bt false, nl, nl, sb [], bt false, nl], 6, false, 0⟩)], 6, []⟩⟩ (blockK 0 (seqK (fun st' => evC tys e22 (.seq r22_6 .ret) (callF tys fns O (run tys fns O (n + 100))) (run tys fns O (n + 100)) st' (endK tys e22.fn (fun y5 g5 =>
  callF tys fns O (run tys fns O (n + 101)) 24 [.ptr 1 0, (.bnd 25 [.ptr 1 0])] g5 fun y9 g9 =>
  callF tys fns O (run tys fns O (n + 101)) 14 [.ptr 1 0] g9 fun y11 g11 =>
  bP (primBuild tys g11 32 (some [(0, bt true), (1, y5), (2, y9), (3, y11)])) fun y12 g12 =>
  bP (primAlloc tys g12 32) fun y13 g13 =>
  bP (primStore tys g13 32 (some y13) (some y12)) fun y14 g14 =>
  (seqK (fun st' => evC tys e8 (.seq (.seq r8_6 (.seq r8_7 (.cond (.tmp 37) (.seq r8_8 .ret) .skip))) (.seq r8_9 .ret)) (callF tys fns O (run tys fns O (n + 101))) (run tys fns O (n + 101)) st' (endK tys e8.fn (dataK k hp))) (endK tys e8.fn (dataK k hp))) .normal ⟨[(2, .ptr 0 0), (6, .ptr 1 0), (7, y13)], g14⟩))) (endK tys e22.fn (fun y5 g5 =>
  callF tys fns O (run tys fns O (n + 101)) 24 [.ptr 1 0, (.bnd 25 [.ptr 1 0])] g5 fun y9 g9 =>
  callF tys fns O (run tys fns O (n + 101)) 14 [.ptr 1 0] g9 fun y11 g11 =>
  bP (primBuild tys g11 32 (some [(0, bt true), (1, y5), (2, y9), (3, y11)])) fun y12 g12 =>
  bP (primAlloc tys g12 32) fun y13 g13 =>
  bP (primStore tys g13 32 (some y13) (some y12)) fun y14 g14 =>
  (seqK (fun st' => evC tys e8 (.seq (.seq r8_6 (.seq r8_7 (.cond (.tmp 37) (.seq r8_8 .ret) .skip))) (.seq r8_9 .ret)) (callF tys fns O (run tys fns O (n + 101))) (run tys fns O (n + 101)) st' (endK tys e8.fn (dataK k hp))) (endK tys e8.fn (dataK k hp))) .normal ⟨[(2, .ptr 0 0), (6, .ptr 1 0), (7, y13)], g14⟩)))) = k (.tup [rp0, i 26]) hp := by kernel_rfl
theorem fin8b_10 (O : Orc) (n : Nat) (m : Nat) (d0 d1 d2 d3 d4 d5 d6 d7 d8 d9 : UInt8) (hp : Hp) (k : PV → Hp → Option R) :
    run tys fns O (n + 100) e22 l22_0 ⟨[(0, .ptr 1 0), (1, .bnd 23 [.ptr 1 0]), (5, .row 5 0 1 1 4), (6, .v (.int .i64 (.ofNat (m + 1))))], ⟨[(5, ⟨[(sb []), (i 0), nl, (i 0)], 4, true, 0⟩), (4, ⟨[(sb []), (i 0), nl, (i 0)], 4, false, 0⟩), (3, ⟨[nl, (i 0)], 2, false, 0⟩), (2, ⟨[(sb []), (i 0), nl, (i 0)], 4, false, 0⟩), (1, rd [1, d0, d1, d2, d3, d4, d5, d6, d7, d8, d9] 11 26), (0, ⟨[bt false, nl, nl, sb [], bt false, nl], 6, false, 0⟩)], 6, []⟩⟩ (blockK 0 (seqK (fun st' => evC tys e22 (.seq r22_6 .ret) (callF tys fns O (run tys fns O (n + 100))) (run tys fns O (n + 100)) st' (endK tys e22.fn (fun y5 g5 =>
  callF tys fns O (run tys fns O (n + 101)) 24 [.ptr 1 0, (.bnd 25 [.ptr 1 0])] g5 fun y9 g9 =>
  callF tys fns O (run tys fns O (n + 101)) 14 [.ptr 1 0] g9 fun y11 g11 =>
  bP (primBuild tys g11 32 (some [(0, bt true), (1, y5), (2, y9), (3, y11)])) fun y12 g12 =>
  bP (primAlloc tys g12 32) fun y13 g13 =>
  bP (primStore tys g13 32 (some y13) (some y12)) fun y14 g14 =>
  (seqK (fun st' => evC tys e8 (.seq (.seq r8_6 (.seq r8_7 (.cond (.tmp 37) (.seq r8_8 .ret) .skip))) (.seq r8_9 .ret)) (callF tys fns O (run tys fns O (n + 101))) (run tys fns O (n + 101)) st' (endK tys e8.fn (dataK k hp))) (endK tys e8.fn (dataK k hp))) .normal ⟨[(2, .ptr 0 0), (6, .ptr 1 0), (7, y13)], g14⟩))) (endK tys e22.fn (fun y5 g5 =>
  callF tys fns O (run tys fns O (n + 101)) 24 [.ptr 1 0, (.bnd 25 [.ptr 1 0])] g5 fun y9 g9 =>
  callF tys fns O (run tys fns O (n + 101)) 14 [.ptr 1 0] g9 fun y11 g11 =>
  bP (primBuild tys g11 32 (some [(0, bt true), (1, y5), (2, y9), (3, y11)])) fun y12 g12 =>
  bP (primAlloc tys g12 32) fun y13 g13 =>
  bP (primStore tys g13 32 (some y13) (some y12)) fun y14 g14 =>
  (seqK (fun st' => evC tys e8 (.seq (.seq r8_6 (.seq r8_7 (.cond (.tmp 37) (.seq r8_8 .ret) .skip))) (.seq r8_9 .ret)) (callF tys fns O (run tys fns O (n + 101))) (run tys fns O (n + 101)) st' (endK tys e8.fn (dataK k hp))) (endK tys e8.fn (dataK k hp))) .normal ⟨[(2, .ptr 0 0), (6, .ptr 1 0), (7, y13)], g14⟩)))) = k (.tup [rp0, i 26]) hp := by kernel_rfl
theorem fin8b (O : Orc) (n : Nat) (m : Nat) (l : List UInt8) (h1 : 1 ≤ l.length) (h2 : l.length ≤ 10) (hp : Hp) (k : PV → Hp → Option R) :
    run tys fns O (n + 100) e22 l22_0 ⟨[(0, .ptr 1 0), (1, .bnd 23 [.ptr 1 0]), (5, .row 5 0 1 1 4), (6, .v (.int .i64 (.ofNat (m + 1))))], ⟨[(5, ⟨[(sb []), (i 0), nl, (i 0)], 4, true, 0⟩), (4, ⟨[(sb []), (i 0), nl, (i 0)], 4, false, 0⟩), (3, ⟨[nl, (i 0)], 2, false, 0⟩), (2, ⟨[(sb []), (i 0), nl, (i 0)], 4, false, 0⟩), (1, rd (1 :: l) (1 :: l).length 26), (0, ⟨[bt false, nl, nl, sb [], bt false, nl], 6, false, 0⟩)], 6, []⟩⟩ (blockK 0 (seqK (fun st' => evC tys e22 (.seq r22_6 .ret) (callF tys fns O (run tys fns O (n + 100))) (run tys fns O (n + 100)) st' (endK tys e22.fn (fun y5 g5 =>
  callF tys fns O (run tys fns O (n + 101)) 24 [.ptr 1 0, (.bnd 25 [.ptr 1 0])] g5 fun y9 g9 =>
  callF tys fns O (run tys fns O (n + 101)) 14 [.ptr 1 0] g9 fun y11 g11 =>
  bP (primBuild tys g11 32 (some [(0, bt true), (1, y5), (2, y9), (3, y11)])) fun y12 g12 =>
  bP (primAlloc tys g12 32) fun y13 g13 =>
  bP (primStore tys g13 32 (some y13) (some y12)) fun y14 g14 =>
  (seqK (fun st' => evC tys e8 (.seq (.seq r8_6 (.seq r8_7 (.cond (.tmp 37) (.seq r8_8 .ret) .skip))) (.seq r8_9 .ret)) (callF tys fns O (run tys fns O (n + 101))) (run tys fns O (n + 101)) st' (endK tys e8.fn (dataK k hp))) (endK tys e8.fn (dataK k hp))) .normal ⟨[(2, .ptr 0 0), (6, .ptr 1 0), (7, y13)], g14⟩))) (endK tys e22.fn (fun y5 g5 =>
  callF tys fns O (run tys fns O (n + 101)) 24 [.ptr 1 0, (.bnd 25 [.ptr 1 0])] g5 fun y9 g9 =>
  callF tys fns O (run tys fns O (n + 101)) 14 [.ptr 1 0] g9 fun y11 g11 =>
  bP (primBuild tys g11 32 (some [(0, bt true), (1, y5), (2, y9), (3, y11)])) fun y12 g12 =>
  bP (primAlloc tys g12 32) fun y13 g13 =>
  bP (primStore tys g13 32 (some y13) (some y12)) fun y14 g14 =>
  (seqK (fun st' => evC tys e8 (.seq (.seq r8_6 (.seq r8_7 (.cond (.tmp 37) (.seq r8_8 .ret) .skip))) (.seq r8_9 .ret)) (callF tys fns O (run tys fns O (n + 101))) (run tys fns O (n + 101)) st' (endK tys e8.fn (dataK k hp))) (endK tys e8.fn (dataK k hp))) .normal ⟨[(2, .ptr 0 0), (6, .ptr 1 0), (7, y13)], g14⟩)))) = k (.tup [rp0, i 26]) hp := by
  match l, h1, h2 with
  | [d0], _, _ => exact fin8b_1 O n m d0 hp k
  | [d0, d1], _, _ => exact fin8b_2 O n m d0 d1 hp k
  | [d0, d1, d2], _, _ => exact fin8b_3 O n m d0 d1 d2 hp k
  | [d0, d1, d2, d3], _, _ => exact fin8b_4 O n m d0 d1 d2 d3 hp k
  | [d0, d1, d2, d3, d4], _, _ => exact fin8b_5 O n m d0 d1 d2 d3 d4 hp k
  | [d0, d1, d2, d3, d4, d5], _, _ => exact fin8b_6 O n m d0 d1 d2 d3 d4 d5 hp k
  | [d0, d1, d2, d3, d4, d5, d6], _, _ => exact fin8b_7 O n m d0 d1 d2 d3 d4 d5 d6 hp k
  | [d0, d1, d2, d3, d4, d5, d6, d7], _, _ => exact fin8b_8 O n m d0 d1 d2 d3 d4 d5 d6 d7 hp k
  | [d0, d1, d2, d3, d4, d5, d6, d7, d8], _, _ => exact fin8b_9 O n m d0 d1 d2 d3 d4 d5 d6 d7 d8 hp k
  | [d0, d1, d2, d3, d4, d5, d6, d7, d8, d9], _, _ => exact fin8b_10 O n m d0 d1 d2 d3 d4 d5 d6 d7 d8 d9 hp k
  | _ :: _ :: _ :: _ :: _ :: _ :: _ :: _ :: _ :: _ :: _ :: _, _, h => exact absurd h (by simp)
theorem rest8p (O : Orc) (n m : Nat) (hm : m + 1 ≤ 9223372036854775807) (l : List UInt8) (h1 : 1 ≤ l.length) (h2 : l.length ≤ 10) (hp : Hp) (k : PV → Hp → Option R) :
    evC tys e22 (.seq (.block 0 l22_0) (.seq r22_6 .ret)) (callF tys fns O (run tys fns O (n + 100))) (run tys fns O (n + 100)) ⟨[(0, .ptr 1 0), (1, .bnd 23 [.ptr 1 0]), (5, nl), (6, .v (.int .i64 (.ofNat (m + 1))))], H8 (1 :: l) (1 :: l).length 0⟩ (endK tys e22.fn (fun y5 g5 =>
  callF tys fns O (run tys fns O (n + 101)) 24 [.ptr 1 0, (.bnd 25 [.ptr 1 0])] g5 fun y9 g9 =>
  callF tys fns O (run tys fns O (n + 101)) 14 [.ptr 1 0] g9 fun y11 g11 =>
  bP (primBuild tys g11 32 (some [(0, bt true), (1, y5), (2, y9), (3, y11)])) fun y12 g12 =>
  bP (primAlloc tys g12 32) fun y13 g13 =>
  bP (primStore tys g13 32 (some y13) (some y12)) fun y14 g14 =>
  (seqK (fun st' => evC tys e8 (.seq (.seq r8_6 (.seq r8_7 (.cond (.tmp 37) (.seq r8_8 .ret) .skip))) (.seq r8_9 .ret)) (callF tys fns O (run tys fns O (n + 101))) (run tys fns O (n + 101)) st' (endK tys e8.fn (dataK k hp))) (endK tys e8.fn (dataK k hp))) .normal ⟨[(2, .ptr 0 0), (6, .ptr 1 0), (7, y13)], g14⟩)) = k (.tup [rp0, i 26]) hp := by
  have hw : wrapq .i64 (Int.ofNat (m + 1) - Int.ofNat 1) = Int.ofNat m := by
    have e : Int.ofNat (m + 1) - Int.ofNat 1 = Int.ofNat m := by simp only [Int.ofNat_eq_natCast]; omega
    rw [e, wrapq64 (by omega)]
  have ht := fun rc k => turn8 (R := R) O n m l h1 h2 rc k
  simp only [hw] at ht
  rw [ev_seq, ev_block, ht]
  cases m with
  | zero => exact fin8a O n l h1 h2 hp k
  | succ m => exact fin8b O n m l h1 h2 hp k
theorem rest9z_1 (O : Orc) (n : Nat) (d0 : UInt8) (hp : Hp) (k : PV → Hp → Option R) :
    evC tys e27 (.seq (.block 0 l27_0) (.seq r27_10 .ret)) (callF tys fns O (run tys fns O (n + 100))) (run tys fns O (n + 100)) ⟨[(0, .ptr 1 0), (3, nl), (4, i 0)], H9 [1, d0] 2 0⟩ (endK tys e27.fn (fun y1 g1 =>
  bP (primFieldAddr tys g1 32 1 (some (.ptr 2 0))) fun y2 g2 =>
  bP (primStore tys g2 24 (some y2) (some y1)) fun y3 g3 =>
  (seqK (fun st' => evC tys e9 (.seq (.seq r9_7 (.block 0 l9_0)) (.seq r9_15 (.seq r9_16 (.seq (.seq r9_17 (.cond (.tmp 68) (.seq r9_18 .ret) .skip)) (.seq r9_19 .ret))))) (callF tys fns O (run tys fns O (n + 101))) (run tys fns O (n + 101)) st' (endK tys e9.fn (dataK k hp))) (endK tys e9.fn (dataK k hp))) .normal ⟨[(2, .ptr 0 0), (6, .ptr 1 0), (7, .ptr 2 0)], g3⟩)) = k (.tup [rp0, i 26]) hp := by kernel_rfl
theorem rest9z_2 (O : Orc) (n : Nat) (d0 d1 : UInt8) (hp : Hp) (k : PV → Hp → Option R) :
    evC tys e27 (.seq (.block 0 l27_0) (.seq r27_10 .ret)) (callF tys fns O (run tys fns O (n + 100))) (run tys fns O (n + 100)) ⟨[(0, .ptr 1 0), (3, nl), (4, i 0)], H9 [1, d0, d1] 3 0⟩ (endK tys e27.fn (fun y1 g1 =>
  bP (primFieldAddr tys g1 32 1 (some (.ptr 2 0))) fun y2 g2 =>
  bP (primStore tys g2 24 (some y2) (some y1)) fun y3 g3 =>
  (seqK (fun st' => evC tys e9 (.seq (.seq r9_7 (.block 0 l9_0)) (.seq r9_15 (.seq r9_16 (.seq (.seq r9_17 (.cond (.tmp 68) (.seq r9_18 .ret) .skip)) (.seq r9_19 .ret))))) (callF tys fns O (run tys fns O (n + 101))) (run tys fns O (n + 101)) st' (endK tys e9.fn (dataK k hp))) (endK tys e9.fn (dataK k hp))) .normal ⟨[(2, .ptr 0 0), (6, .ptr 1 0), (7, .ptr 2 0)], g3⟩)) = k (.tup [rp0, i 26]) hp := by kernel_rfl
theorem rest9z_3 (O : Orc) (n : Nat) (d0 d1 d2 : UInt8) (hp : Hp) (k : PV → Hp → Option R) :
    evC tys e27 (.seq (.block 0 l27_0) (.seq r27_10 .ret)) (callF tys fns O (run tys fns O (n + 100))) (run tys fns O (n + 100)) ⟨[(0, .ptr 1 0), (3, nl), (4, i 0)], H9 [1, d0, d1, d2] 4 0⟩ (endK tys e27.fn (fun y1 g1 =>
  bP (primFieldAddr tys g1 32 1 (some (.ptr 2 0))) fun y2 g2 =>
  bP (primStore tys g2 24 (some y2) (some y1)) fun y3 g3 =>
  (seqK (fun st' => evC tys e9 (.seq (.seq r9_7 (.block 0 l9_0)) (.seq r9_15 (.seq r9_16 (.seq (.seq r9_17 (.cond (.tmp 68) (.seq r9_18 .ret) .skip)) (.seq r9_19 .ret))))) (callF tys fns O (run tys fns O (n + 101))) (run tys fns O (n + 101)) st' (endK tys e9.fn (dataK k hp))) (endK tys e9.fn (dataK k hp))) .normal ⟨[(2, .ptr 0 0), (6, .ptr 1 0), (7, .ptr 2 0)], g3⟩)) = k (.tup [rp0, i 26]) hp := by kernel_rfl
theorem rest9z_4 (O : Orc) (n : Nat) (d0 d1 d2 d3 : UInt8) (hp : Hp) (k : PV → Hp → Option R) :
    evC tys e27 (.seq (.block 0 l27_0) (.seq r27_10 .ret)) (callF tys fns O (run tys fns O (n + 100))) (run tys fns O (n + 100)) ⟨[(0, .ptr 1 0), (3, nl), (4, i 0)], H9 [1, d0, d1, d2, d3] 5 0⟩ (endK tys e27.fn (fun y1 g1 =>
  bP (primFieldAddr tys g1 32 1 (some (.ptr 2 0))) fun y2 g2 =>
  bP (primStore tys g2 24 (some y2) (some y1)) fun y3 g3 =>
  (seqK (fun st' => evC tys e9 (.seq (.seq r9_7 (.block 0 l9_0)) (.seq r9_15 (.seq r9_16 (.seq (.seq r9_17 (.cond (.tmp 68) (.seq r9_18 .ret) .skip)) (.seq r9_19 .ret))))) (callF tys fns O (run tys fns O (n + 101))) (run tys fns O (n + 101)) st' (endK tys e9.fn (dataK k hp))) (endK tys e9.fn (dataK k hp))) .normal ⟨[(2, .ptr 0 0), (6, .ptr 1 0), (7, .ptr 2 0)], g3⟩)) = k (.tup [rp0, i 26]) hp := by kernel_rfl
theorem rest9z_5 (O : Orc) (n : Nat) (d0 d1 d2 d3 d4 : UInt8) (hp : Hp) (k : PV → Hp → Option R) :
    evC tys e27 (.seq (.block 0 l27_0) (.seq r27_10 .ret)) (callF tys fns O (run tys fns O (n + 100))) (run tys fns O (n + 100)) ⟨[(0, .ptr 1 0), (3, nl), (4, i 0)], H9 [1, d0, d1, d2, d3, d4] 6 0⟩ (endK tys e27.fn (fun y1 g1 =>
  bP (primFieldAddr tys g1 32 1 (some (.ptr 2 0))) fun y2 g2 =>
  bP (primStore tys g2 24 (some y2) (some y1)) fun y3 g3 =>
  (seqK (fun st' => evC tys e9 (.seq (.seq r9_7 (.block 0 l9_0)) (.seq r9_15 (.seq r9_16 (.seq (.seq r9_17 (.cond (.tmp 68) (.seq r9_18 .ret) .skip)) (.seq r9_19 .ret))))) (callF tys fns O (run tys fns O (n + 101))) (run tys fns O (n + 101)) st' (endK tys e9.fn (dataK k hp))) (endK tys e9.fn (dataK k hp))) .normal ⟨[(2, .ptr 0 0), (6, .ptr 1 0), (7, .ptr 2 0)], g3⟩)) = k (.tup [rp0, i 26]) hp := by kernel_rfl
theorem rest9z_6 (O : Orc) (n : Nat) (d0 d1 d2 d3 d4 d5 : UInt8) (hp : Hp) (k : PV → Hp → Option R) :
    evC tys e27 (.seq (.block 0 l27_0) (.seq r27_10 .ret)) (callF tys fns O (run tys fns O (n + 100))) (run tys fns O (n + 100)) ⟨[(0, .ptr 1 0), (3, nl), (4, i 0)], H9 [1, d0, d1, d2, d3, d4, d5] 7 0⟩ (endK tys e27.fn (fun y1 g1 =>
  bP (primFieldAddr tys g1 32 1 (some (.ptr 2 0))) fun y2 g2 =>
  bP (primStore tys g2 24 (some y2) (some y1)) fun y3 g3 =>
  (seqK (fun st' => evC tys e9 (.seq (.seq r9_7 (.block 0 l9_0)) (.seq r9_15 (.seq r9_16 (.seq (.seq r9_17 (.cond (.tmp 68) (.seq r9_18 .ret) .skip)) (.seq r9_19 .ret))))) (callF tys fns O (run tys fns O (n + 101))) (run tys fns O (n + 101)) st' (endK tys e9.fn (dataK k hp))) (endK tys e9.fn (dataK k hp))) .normal ⟨[(2, .ptr 0 0), (6, .ptr 1 0), (7, .ptr 2 0)], g3⟩)) = k (.tup [rp0, i 26]) hp := by kernel_rfl
theorem rest9z_7 (O : Orc) (n : Nat) (d0 d1 d2 d3 d4 d5 d6 : UInt8) (hp : Hp) (k : PV → Hp → Option R) :
    evC tys e27 (.seq (.block 0 l27_0) (.seq r27_10 .ret)) (callF tys fns O (run tys fns O (n + 100))) (run tys fns O (n + 100)) ⟨[(0, .ptr 1 0), (3, nl), (4, i 0)], H9 [1, d0, d1, d2, d3, d4, d5, d6] 8 0⟩ (endK tys e27.fn (fun y1 g1 =>
  bP (primFieldAddr tys g1 32 1 (some (.ptr 2 0))) fun y2 g2 =>
  bP (primStore tys g2 24 (some y2) (some y1)) fun y3 g3 =>
  (seqK (fun st' => evC tys e9 (.seq (.seq r9_7 (.block 0 l9_0)) (.seq r9_15 (.seq r9_16 (.seq (.seq r9_17 (.cond (.tmp 68) (.seq r9_18 .ret) .skip)) (.seq r9_19 .ret))))) (callF tys fns O (run tys fns O (n + 101))) (run tys fns O (n + 101)) st' (endK tys e9.fn (dataK k hp))) (endK tys e9.fn (dataK k hp))) .normal ⟨[(2, .ptr 0 0), (6, .ptr 1 0), (7, .ptr 2 0)], g3⟩)) = k (.tup [rp0, i 26]) hp := by kernel_rfl
theorem rest9z_8 (O : Orc) (n : Nat) (d0 d1 d2 d3 d4 d5 d6 d7 : UInt8) (hp : Hp) (k : PV → Hp → Option R) :
    evC tys e27 (.seq (.block 0 l27_0) (.seq r27_10 .ret)) (callF tys fns O (run tys fns O (n + 100))) (run tys fns O (n + 100)) ⟨[(0, .ptr 1 0), (3, nl), (4, i 0)], H9 [1, d0, d1, d2, d3, d4, d5, d6, d7] 9 0⟩ (endK tys e27.fn (fun y1 g1 =>
  bP (primFieldAddr tys g1 32 1 (some (.ptr 2 0))) fun y2 g2 =>
  bP (primStore tys g2 24 (some y2) (some y1)) fun y3 g3 =>
  (seqK (fun st' => evC tys e9 (.seq (.seq r9_7 (.block 0 l9_0)) (.seq r9_15 (.seq r9_16 (.seq (.seq r9_17 (.cond (.tmp 68) (.seq r9_18 .ret) .skip)) (.seq r9_19 .ret))))) (callF tys fns O (run tys fns O (n + 101))) (run tys fns O (n + 101)) st' (endK tys e9.fn (dataK k hp))) (endK tys e9.fn (dataK k hp))) .normal ⟨[(2, .ptr 0 0), (6, .ptr 1 0), (7, .ptr 2 0)], g3⟩)) = k (.tup [rp0, i 26]) hp := by kernel_rfl
theorem rest9z_9 (O : Orc) (n : Nat) (d0 d1 d2 d3 d4 d5 d6 d7 d8 : UInt8) (hp : Hp) (k : PV → Hp → Option R) :
    evC tys e27 (.seq (.block 0 l27_0) (.seq r27_10 .ret)) (callF tys fns O (run tys fns O (n + 100))) (run tys fns O (n + 100)) ⟨[(0, .ptr 1 0), (3, nl), (4, i 0)], H9 [1, d0, d1, d2, d3, d4, d5, d6, d7, d8] 10 0⟩ (endK tys e27.fn (fun y1 g1 =>
  bP (primFieldAddr tys g1 32 1 (some (.ptr 2 0))) fun y2 g2 =>
  bP (primStore tys g2 24 (some y2) (some y1)) fun y3 g3 =>
  (seqK (fun st' => evC tys e9 (.seq (.seq r9_7 (.block 0 l9_0)) (.seq r9_15 (.seq r9_16 (.seq (.seq r9_17 (.cond (.tmp 68) (.seq r9_18 .ret) .skip)) (.seq r9_19 .ret))))) (callF tys fns O (run tys fns O (n + 101))) (run tys fns O (n + 101)) st' (endK tys e9.fn (dataK k hp))) (endK tys e9.fn (dataK k hp))) .normal ⟨[(2, .ptr 0 0), (6, .ptr 1 0), (7, .ptr 2 0)], g3⟩)) = k (.tup [rp0, i 26]) hp := by kernel_rfl
theorem rest9z_10 (O : Orc) (n : Nat) (d0 d1 d2 d3 d4 d5 d6 d7 d8 d9 : UInt8) (hp : Hp) (k : PV → Hp → Option R) :
    evC tys e27 (.seq (.block 0 l27_0) (.seq r27_10 .ret)) (callF tys fns O (run tys fns O (n + 100))) (run tys fns O (n + 100)) ⟨[(0, .ptr 1 0), (3, nl), (4, i 0)], H9 [1, d0, d1, d2, d3, d4, d5, d6, d7, d8, d9] 11 0⟩ (endK tys e27.fn (fun y1 g1 =>
  bP (primFieldAddr tys g1 32 1 (some (.ptr 2 0))) fun y2 g2 =>
  bP (primStore tys g2 24 (some y2) (some y1)) fun y3 g3 =>
  (seqK (fun st' => evC tys e9 (.seq (.seq r9_7 (.block 0 l9_0)) (.seq r9_15 (.seq r9_16 (.seq (.seq r9_17 (.cond (.tmp 68) (.seq r9_18 .ret) .skip)) (.seq r9_19 .ret))))) (callF tys fns O (run tys fns O (n + 101))) (run tys fns O (n + 101)) st' (endK tys e9.fn (dataK k hp))) (endK tys e9.fn (dataK k hp))) .normal ⟨[(2, .ptr 0 0), (6, .ptr 1 0), (7, .ptr 2 0)], g3⟩)) = k (.tup [rp0, i 26]) hp := by kernel_rfl
theorem rest9z (O : Orc) (n : Nat) (l : List UInt8) (h1 : 1 ≤ l.length) (h2 : l.length ≤ 10) (hp : Hp) (k : PV → Hp → Option R) :
    evC tys e27 (.seq (.block 0 l27_0) (.seq r27_10 .ret)) (callF tys fns O (run tys fns O (n + 100))) (run tys fns O (n + 100)) ⟨[(0, .ptr 1 0), (3, nl), (4, i 0)], H9 (1 :: l) (1 :: l).length 0⟩ (endK tys e27.fn (fun y1 g1 =>
  bP (primFieldAddr tys g1 32 1 (some (.ptr 2 0))) fun y2 g2 =>
  bP (primStore tys g2 24 (some y2) (some y1)) fun y3 g3 =>
  (seqK (fun st' => evC tys e9 (.seq (.seq r9_7 (.block 0 l9_0)) (.seq r9_15 (.seq r9_16 (.seq (.seq r9_17 (.cond (.tmp 68) (.seq r9_18 .ret) .skip)) (.seq r9_19 .ret))))) (callF tys fns O (run tys fns O (n + 101))) (run tys fns O (n + 101)) st' (endK tys e9.fn (dataK k hp))) (endK tys e9.fn (dataK k hp))) .normal ⟨[(2, .ptr 0 0), (6, .ptr 1 0), (7, .ptr 2 0)], g3⟩)) = k (.tup [rp0, i 26]) hp := by
  match l, h1, h2 with
  | [d0], _, _ => exact rest9z_1 O n d0 hp k
  | [d0, d1], _, _ => exact rest9z_2 O n d0 d1 hp k
  | [d0, d1, d2], _, _ => exact rest9z_3 O n d0 d1 d2 hp k
  | [d0, d1, d2, d3], _, _ => exact rest9z_4 O n d0 d1 d2 d3 hp k
  | [d0, d1, d2, d3, d4], _, _ => exact rest9z_5 O n d0 d1 d2 d3 d4 hp k
  | [d0, d1, d2, d3, d4, d5], _, _ => exact rest9z_6 O n d0 d1 d2 d3 d4 d5 hp k
  | [d0, d1, d2, d3, d4, d5, d6], _, _ => exact rest9z_7 O n d0 d1 d2 d3 d4 d5 d6 hp k
  | [d0, d1, d2, d3, d4, d5, d6, d7], _, _ => exact rest9z_8 O n d0 d1 d2 d3 d4 d5 d6 d7 hp k
  | [d0, d1, d2, d3, d4, d5, d6, d7, d8], _, _ => exact rest9z_9 O n d0 d1 d2 d3 d4 d5 d6 d7 d8 hp k
  | [d0, d1, d2, d3, d4, d5, d6, d7, d8, d9], _, _ => exact rest9z_10 O n d0 d1 d2 d3 d4 d5 d6 d7 d8 d9 hp k
  | _ :: _ :: _ :: _ :: _ :: _ :: _ :: _ :: _ :: _ :: _ :: _, _, h => exact absurd h (by simp)
theorem rest9g_1 (O : Orc) (n : Nat) (d0 : UInt8) (hp : Hp) (k : PV → Hp → Option R) :
    evC tys e27 (.seq (.block 0 l27_0) (.seq r27_10 .ret)) (callF tys fns O (run tys fns O (n + 100))) (run tys fns O (n + 100)) ⟨[(0, .ptr 1 0), (3, nl), (4, i 0)], H9 [1, d0] 2 5⟩ (endK tys e27.fn (fun y1 g1 =>
  bP (primFieldAddr tys g1 32 1 (some (.ptr 2 0))) fun y2 g2 =>
  bP (primStore tys g2 24 (some y2) (some y1)) fun y3 g3 =>
  (seqK (fun st' => evC tys e9 (.seq (.seq r9_7 (.block 0 l9_0)) (.seq r9_15 (.seq r9_16 (.seq (.seq r9_17 (.cond (.tmp 68) (.seq r9_18 .ret) .skip)) (.seq r9_19 .ret))))) (callF tys fns O (run tys fns O (n + 101))) (run tys fns O (n + 101)) st' (endK tys e9.fn (dataK k hp))) (endK tys e9.fn (dataK k hp))) .normal ⟨[(2, .ptr 0 0), (6, .ptr 1 0), (7, .ptr 2 0)], g3⟩)) = k (.tup [rp0, i 5]) hp := by kernel_rfl
theorem rest9g_2 (O : Orc) (n : Nat) (d0 d1 : UInt8) (hp : Hp) (k : PV → Hp → Option R) :
    evC tys e27 (.seq (.block 0 l27_0) (.seq r27_10 .ret)) (callF tys fns O (run tys fns O (n + 100))) (run tys fns O (n + 100)) ⟨[(0, .ptr 1 0), (3, nl), (4, i 0)], H9 [1, d0, d1] 3 5⟩ (endK tys e27.fn (fun y1 g1 =>
  bP (primFieldAddr tys g1 32 1 (some (.ptr 2 0))) fun y2 g2 =>
  bP (primStore tys g2 24 (some y2) (some y1)) fun y3 g3 =>
  (seqK (fun st' => evC tys e9 (.seq (.seq r9_7 (.block 0 l9_0)) (.seq r9_15 (.seq r9_16 (.seq (.seq r9_17 (.cond (.tmp 68) (.seq r9_18 .ret) .skip)) (.seq r9_19 .ret))))) (callF tys fns O (run tys fns O (n + 101))) (run tys fns O (n + 101)) st' (endK tys e9.fn (dataK k hp))) (endK tys e9.fn (dataK k hp))) .normal ⟨[(2, .ptr 0 0), (6, .ptr 1 0), (7, .ptr 2 0)], g3⟩)) = k (.tup [rp0, i 5]) hp := by kernel_rfl
theorem rest9g_3 (O : Orc) (n : Nat) (d0 d1 d2 : UInt8) (hp : Hp) (k : PV → Hp → Option R) :
    evC tys e27 (.seq (.block 0 l27_0) (.seq r27_10 .ret)) (callF tys fns O (run tys fns O (n + 100))) (run tys fns O (n + 100)) ⟨[(0, .ptr 1 0), (3, nl), (4, i 0)], H9 [1, d0, d1, d2] 4 5⟩ (endK tys e27.fn (fun y1 g1 =>
  bP (primFieldAddr tys g1 32 1 (some (.ptr 2 0))) fun y2 g2 =>
  bP (primStore tys g2 24 (some y2) (some y1)) fun y3 g3 =>
  (seqK (fun st' => evC tys e9 (.seq (.seq r9_7 (.block 0 l9_0)) (.seq r9_15 (.seq r9_16 (.seq (.seq r9_17 (.cond (.tmp 68) (.seq r9_18 .ret) .skip)) (.seq r9_19 .ret))))) (callF tys fns O (run tys fns O (n + 101))) (run tys fns O (n + 101)) st' (endK tys e9.fn (dataK k hp))) (endK tys e9.fn (dataK k hp))) .normal ⟨[(2, .ptr 0 0), (6, .ptr 1 0), (7, .ptr 2 0)], g3⟩)) = k (.tup [rp0, i 5]) hp := by kernel_rfl
theorem rest9g_4 (O : Orc) (n : Nat) (d0 d1 d2 d3 : UInt8) (hp : Hp) (k : PV → Hp → Option R) :
    evC tys e27 (.seq (.block 0 l27_0) (.seq r27_10 .ret)) (callF tys fns O (run tys fns O (n + 100))) (run tys fns O (n + 100)) ⟨[(0, .ptr 1 0), (3, nl), (4, i 0)], H9 [1, d0, d1, d2, d3] 5 5⟩ (endK tys e27.fn (fun y1 g1 =>
  bP (primFieldAddr tys g1 32 1 (some (.ptr 2 0))) fun y2 g2 =>
  bP (primStore tys g2 24 (some y2) (some y1)) fun y3 g3 =>
  (seqK (fun st' => evC tys e9 (.seq (.seq r9_7 (.block 0 l9_0)) (.seq r9_15 (.seq r9_16 (.seq (.seq r9_17 (.cond (.tmp 68) (.seq r9_18 .ret) .skip)) (.seq r9_19 .ret))))) (callF tys fns O (run tys fns O (n + 101))) (run tys fns O (n + 101)) st' (endK tys e9.fn (dataK k hp))) (endK tys e9.fn (dataK k hp))) .normal ⟨[(2, .ptr 0 0), (6, .ptr 1 0), (7, .ptr 2 0)], g3⟩)) = k (.tup [rp0, i 5]) hp := by kernel_rfl
theorem rest9g_5 (O : Orc) (n : Nat) (d0 d1 d2 d3 d4 : UInt8) (hp : Hp) (k : PV → Hp → Option R) :
    evC tys e27 (.seq (.block 0 l27_0) (.seq r27_10 .ret)) (callF tys fns O (run tys fns O (n + 100))) (run tys fns O (n + 100)) ⟨[(0, .ptr 1 0), (3, nl), (4, i 0)], H9 [1, d0, d1, d2, d3, d4] 6 5⟩ (endK tys e27.fn (fun y1 g1 =>
  bP (primFieldAddr tys g1 32 1 (some (.ptr 2 0))) fun y2 g2 =>
  bP (primStore tys g2 24 (some y2) (some y1)) fun y3 g3 =>
  (seqK (fun st' => evC tys e9 (.seq (.seq r9_7 (.block 0 l9_0)) (.seq r9_15 (.seq r9_16 (.seq (.seq r9_17 (.cond (.tmp 68) (.seq r9_18 .ret) .skip)) (.seq r9_19 .ret))))) (callF tys fns O (run tys fns O (n + 101))) (run tys fns O (n + 101)) st' (endK tys e9.fn (dataK k hp))) (endK tys e9.fn (dataK k hp))) .normal ⟨[(2, .ptr 0 0), (6, .ptr 1 0), (7, .ptr 2 0)], g3⟩)) = k (.tup [rp0, i 5]) hp := by kernel_rfl
theorem rest9g_6 (O : Orc) (n : Nat) (d0 d1 d2 d3 d4 d5 : UInt8) (hp : Hp) (k : PV → Hp → Option R) :
    evC tys e27 (.seq (.block 0 l27_0) (.seq r27_10 .ret)) (callF tys fns O (run tys fns O (n + 100))) (run tys fns O (n + 100)) ⟨[(0, .ptr 1 0), (3, nl), (4, i 0)], H9 [1, d0, d1, d2, d3, d4, d5] 7 5⟩ (endK tys e27.fn (fun y1 g1 =>
  bP (primFieldAddr tys g1 32 1 (some (.ptr 2 0))) fun y2 g2 =>
  bP (primStore tys g2 24 (some y2) (some y1)) fun y3 g3 =>
  (seqK (fun st' => evC tys e9 (.seq (.seq r9_7 (.block 0 l9_0)) (.seq r9_15 (.seq r9_16 (.seq (.seq r9_17 (.cond (.tmp 68) (.seq r9_18 .ret) .skip)) (.seq r9_19 .ret))))) (callF tys fns O (run tys fns O (n + 101))) (run tys fns O (n + 101)) st' (endK tys e9.fn (dataK k hp))) (endK tys e9.fn (dataK k hp))) .normal ⟨[(2, .ptr 0 0), (6, .ptr 1 0), (7, .ptr 2 0)], g3⟩)) = k (.tup [rp0, i 5]) hp := by kernel_rfl
theorem rest9g_7 (O : Orc) (n : Nat) (d0 d1 d2 d3 d4 d5 d6 : UInt8) (hp : Hp) (k : PV → Hp → Option R) :
    evC tys e27 (.seq (.block 0 l27_0) (.seq r27_10 .ret)) (callF tys fns O (run tys fns O (n + 100))) (run tys fns O (n + 100)) ⟨[(0, .ptr 1 0), (3, nl), (4, i 0)], H9 [1, d0, d1, d2, d3, d4, d5, d6] 8 5⟩ (endK tys e27.fn (fun y1 g1 =>
  bP (primFieldAddr tys g1 32 1 (some (.ptr 2 0))) fun y2 g2 =>
  bP (primStore tys g2 24 (some y2) (some y1)) fun y3 g3 =>
  (seqK (fun st' => evC tys e9 (.seq (.seq r9_7 (.block 0 l9_0)) (.seq r9_15 (.seq r9_16 (.seq (.seq r9_17 (.cond (.tmp 68) (.seq r9_18 .ret) .skip)) (.seq r9_19 .ret))))) (callF tys fns O (run tys fns O (n + 101))) (run tys fns O (n + 101)) st' (endK tys e9.fn (dataK k hp))) (endK tys e9.fn (dataK k hp))) .normal ⟨[(2, .ptr 0 0), (6, .ptr 1 0), (7, .ptr 2 0)], g3⟩)) = k (.tup [rp0, i 5]) hp := by kernel_rfl
theorem rest9g_8 (O : Orc) (n : Nat) (d0 d1 d2 d3 d4 d5 d6 d7 : UInt8) (hp : Hp) (k : PV → Hp → Option R) :
    evC tys e27 (.seq (.block 0 l27_0) (.seq r27_10 .ret)) (callF tys fns O (run tys fns O (n + 100))) (run tys fns O (n + 100)) ⟨[(0, .ptr 1 0), (3, nl), (4, i 0)], H9 [1, d0, d1, d2, d3, d4, d5, d6, d7] 9 5⟩ (endK tys e27.fn (fun y1 g1 =>
  bP (primFieldAddr tys g1 32 1 (some (.ptr 2 0))) fun y2 g2 =>
  bP (primStore tys g2 24 (some y2) (some y1)) fun y3 g3 =>
  (seqK (fun st' => evC tys e9 (.seq (.seq r9_7 (.block 0 l9_0)) (.seq r9_15 (.seq r9_16 (.seq (.seq r9_17 (.cond (.tmp 68) (.seq r9_18 .ret) .skip)) (.seq r9_19 .ret))))) (callF tys fns O (run tys fns O (n + 101))) (run tys fns O (n + 101)) st' (endK tys e9.fn (dataK k hp))) (endK tys e9.fn (dataK k hp))) .normal ⟨[(2, .ptr 0 0), (6, .ptr 1 0), (7, .ptr 2 0)], g3⟩)) = k (.tup [rp0, i 5]) hp := by kernel_rfl
theorem rest9g_9 (O : Orc) (n : Nat) (d0 d1 d2 d3 d4 d5 d6 d7 d8 : UInt8) (hp : Hp) (k : PV → Hp → Option R) :
    evC tys e27 (.seq (.block 0 l27_0) (.seq r27_10 .ret)) (callF tys fns O (run tys fns O (n + 100))) (run tys fns O (n + 100)) ⟨[(0, .ptr 1 0), (3, nl), (4, i 0)], H9 [1, d0, d1, d2, d3, d4, d5, d6, d7, d8] 10 5⟩ (endK tys e27.fn (fun y1 g1 =>
  bP (primFieldAddr tys g1 32 1 (some (.ptr 2 0))) fun y2 g2 =>
  bP (primStore tys g2 24 (some y2) (some y1)) fun y3 g3 =>
  (seqK (fun st' => evC tys e9 (.seq (.seq r9_7 (.block 0 l9_0)) (.seq r9_15 (.seq r9_16 (.seq (.seq r9_17 (.cond (.tmp 68) (.seq r9_18 .ret) .skip)) (.seq r9_19 .ret))))) (callF tys fns O (run tys fns O (n + 101))) (run tys fns O (n + 101)) st' (endK tys e9.fn (dataK k hp))) (endK tys e9.fn (dataK k hp))) .normal ⟨[(2, .ptr 0 0), (6, .ptr 1 0), (7, .ptr 2 0)], g3⟩)) = k (.tup [rp0, i 5]) hp := by kernel_rfl
theorem rest9g_10 (O : Orc) (n : Nat) (d0 d1 d2 d3 d4 d5 d6 d7 d8 d9 : UInt8) (hp : Hp) (k : PV → Hp → Option R) :
    evC tys e27 (.seq (.block 0 l27_0) (.seq r27_10 .ret)) (callF tys fns O (run tys fns O (n + 100))) (run tys fns O (n + 100)) ⟨[(0, .ptr 1 0), (3, nl), (4, i 0)], H9 [1, d0, d1, d2, d3, d4, d5, d6, d7, d8, d9] 11 5⟩ (endK tys e27.fn (fun y1 g1 =>
  bP (primFieldAddr tys g1 32 1 (some (.ptr 2 0))) fun y2 g2 =>
  bP (primStore tys g2 24 (some y2) (some y1)) fun y3 g3 =>
  (seqK (fun st' => evC tys e9 (.seq (.seq r9_7 (.block 0 l9_0)) (.seq r9_15 (.seq r9_16 (.seq (.seq r9_17 (.cond (.tmp 68) (.seq r9_18 .ret) .skip)) (.seq r9_19 .ret))))) (callF tys fns O (run tys fns O (n + 101))) (run tys fns O (n + 101)) st' (endK tys e9.fn (dataK k hp))) (endK tys e9.fn (dataK k hp))) .normal ⟨[(2, .ptr 0 0), (6, .ptr 1 0), (7, .ptr 2 0)], g3⟩)) = k (.tup [rp0, i 5]) hp := by kernel_rfl
theorem rest9g (O : Orc) (n : Nat) (l : List UInt8) (h1 : 1 ≤ l.length) (h2 : l.length ≤ 10) (hp : Hp) (k : PV → Hp → Option R) :
    evC tys e27 (.seq (.block 0 l27_0) (.seq r27_10 .ret)) (callF tys fns O (run tys fns O (n + 100))) (run tys fns O (n + 100)) ⟨[(0, .ptr 1 0), (3, nl), (4, i 0)], H9 (1 :: l) (1 :: l).length 5⟩ (endK tys e27.fn (fun y1 g1 =>
  bP (primFieldAddr tys g1 32 1 (some (.ptr 2 0))) fun y2 g2 =>
  bP (primStore tys g2 24 (some y2) (some y1)) fun y3 g3 =>
  (seqK (fun st' => evC tys e9 (.seq (.seq r9_7 (.block 0 l9_0)) (.seq r9_15 (.seq r9_16 (.seq (.seq r9_17 (.cond (.tmp 68) (.seq r9_18 .ret) .skip)) (.seq r9_19 .ret))))) (callF tys fns O (run tys fns O (n + 101))) (run tys fns O (n + 101)) st' (endK tys e9.fn (dataK k hp))) (endK tys e9.fn (dataK k hp))) .normal ⟨[(2, .ptr 0 0), (6, .ptr 1 0), (7, .ptr 2 0)], g3⟩)) = k (.tup [rp0, i 5]) hp := by
  match l, h1, h2 with
  | [d0], _, _ => exact rest9g_1 O n d0 hp k
  | [d0, d1], _, _ => exact rest9g_2 O n d0 d1 hp k
  | [d0, d1, d2], _, _ => exact rest9g_3 O n d0 d1 d2 hp k
  | [d0, d1, d2, d3], _, _ => exact rest9g_4 O n d0 d1 d2 d3 hp k
  | [d0, d1, d2, d3, d4], _, _ => exact rest9g_5 O n d0 d1 d2 d3 d4 hp k
  | [d0, d1, d2, d3, d4, d5], _, _ => exact rest9g_6 O n d0 d1 d2 d3 d4 d5 hp k
  | [d0, d1, d2, d3, d4, d5, d6], _, _ => exact rest9g_7 O n d0 d1 d2 d3 d4 d5 d6 hp k
  | [d0, d1, d2, d3, d4, d5, d6, d7], _, _ => exact rest9g_8 O n d0 d1 d2 d3 d4 d5 d6 d7 hp k
  | [d0, d1, d2, d3, d4, d5, d6, d7, d8], _, _ => exact rest9g_9 O n d0 d1 d2 d3 d4 d5 d6 d7 d8 hp k
  | [d0, d1, d2, d3, d4, d5, d6, d7, d8, d9], _, _ => exact rest9g_10 O n d0 d1 d2 d3 d4 d5 d6 d7 d8 d9 hp k
  | _ :: _ :: _ :: _ :: _ :: _ :: _ :: _ :: _ :: _ :: _ :: _, _, h => exact absurd h (by simp)
theorem turn9_1 (O : Orc) (n m : Nat) (d0 : UInt8) (rc : RC R) (k : Ex → St → Option R) :
    evC tys e27 l27_0 (callF tys fns O (run tys fns O (n + 100))) rc ⟨[(0, .ptr 1 0), (3, nl), (4, .v (.int .i64 (.ofNat (m + 1))))], H9 [1, d0] 2 0⟩ k = rc e27 l27_0 ⟨[(0, .ptr 1 0), (3, .row 7 0 1 1 4), (4, .v (.int .i64 (wrapq .i64 (Int.ofNat (m + 1) - Int.ofNat 1))))], ⟨[(7, ⟨[(sb []), (i 0), nl, (i 0)], 4, true, 0⟩), (6, ⟨[(sb []), (i 0), nl, (i 0)], 4, false, 0⟩), (5, ⟨[nl, (i 0)], 2, false, 0⟩), (4, ⟨[nl, (i 0)], 2, false, 0⟩), (3, ⟨[(sb []), (i 0), nl, (i 0)], 4, false, 0⟩), (2, ⟨[bt true, nl, nl, sb [], bt false, nl], 6, false, 0⟩), (1, rd [1, d0] 2 26), (0, ⟨[bt false, nl, nl, sb [], bt false, nl], 6, false, 0⟩)], 8, []⟩⟩ k := by kernel_rfl
theorem turn9_2 (O : Orc) (n m : Nat) (d0 d1 : UInt8) (rc : RC R) (k : Ex → St → Option R) :
    evC tys e27 l27_0 (callF tys fns O (run tys fns O (n + 100))) rc ⟨[(0, .ptr 1 0), (3, nl), (4, .v (.int .i64 (.ofNat (m + 1))))], H9 [1, d0, d1] 3 0⟩ k = rc e27 l27_0 ⟨[(0, .ptr 1 0), (3, .row 7 0 1 1 4), (4, .v (.int .i64 (wrapq .i64 (Int.ofNat (m + 1) - Int.ofNat 1))))], ⟨[(7, ⟨[(sb []), (i 0), nl, (i 0)], 4, true, 0⟩), (6, ⟨[(sb []), (i 0), nl, (i 0)], 4, false, 0⟩), (5, ⟨[nl, (i 0)], 2, false, 0⟩), (4, ⟨[nl, (i 0)], 2, false, 0⟩), (3, ⟨[(sb []), (i 0), nl, (i 0)], 4, false, 0⟩), (2, ⟨[bt true, nl, nl, sb [], bt false, nl], 6, false, 0⟩), (1, rd [1, d0, d1] 3 26), (0, ⟨[bt false, nl, nl, sb [], bt false, nl], 6, false, 0⟩)], 8, []⟩⟩ k := by kernel_rfl
theorem turn9_3 (O : Orc) (n m : Nat) (d0 d1 d2 : UInt8) (rc : RC R) (k : Ex → St → Option R) :
    evC tys e27 l27_0 (callF tys fns O (run tys fns O (n + 100))) rc ⟨[(0, .ptr 1 0), (3, nl), (4, .v (.int .i64 (.ofNat (m + 1))))], H9 [1, d0, d1, d2] 4 0⟩ k = rc e27 l27_0 ⟨[(0, .ptr 1 0), (3, .row 7 0 1 1 4), (4, .v (.int .i64 (wrapq .i64 (Int.ofNat (m + 1) - Int.ofNat 1))))], ⟨[(7, ⟨[(sb []), (i 0), nl, (i 0)], 4, true, 0⟩), (6, ⟨[(sb []), (i 0), nl, (i 0)], 4, false, 0⟩), (5, ⟨[nl, (i 0)], 2, false, 0⟩), (4, ⟨[nl, (i 0)], 2, false, 0⟩), (3, ⟨[(sb []), (i 0), nl, (i 0)], 4, false, 0⟩), (2, ⟨[bt true, nl, nl, sb [], bt false, nl], 6, false, 0⟩), (1, rd [1, d0, d1, d2] 4 26), (0, ⟨[bt false, nl, nl, sb [], bt false, nl], 6, false, 0⟩)], 8, []⟩⟩ k := by kernel_rfl
theorem turn9_4 (O : Orc) (n m : Nat) (d0 d1 d2 d3 : UInt8) (rc : RC R) (k : Ex → St → Option R) :
    evC tys e27 l27_0 (callF tys fns O (run tys fns O (n + 100))) rc ⟨[(0, .ptr 1 0), (3, nl), (4, .v (.int .i64 (.ofNat (m + 1))))], H9 [1, d0, d1, d2, d3] 5 0⟩ k = rc e27 l27_0 ⟨[(0, .ptr 1 0), (3, .row 7 0 1 1 4), (4, .v (.int .i64 (wrapq .i64 (Int.ofNat (m + 1) - Int.ofNat 1))))], ⟨[(7, ⟨[(sb []), (i 0), nl, (i 0)], 4, true, 0⟩), (6, ⟨[(sb []), (i 0), nl, (i 0)], 4, false, 0⟩), (5, ⟨[nl, (i 0)], 2, false, 0⟩), (4, ⟨[nl, (i 0)], 2, false, 0⟩), (3, ⟨[(sb []), (i 0), nl, (i 0)], 4, false, 0⟩), (2, ⟨[bt true, nl, nl, sb [], bt false, nl], 6, false, 0⟩), (1, rd [1, d0, d1, d2, d3] 5 26), (0, ⟨[bt false, nl, nl, sb [], bt false, nl], 6, false, 0⟩)], 8, []⟩⟩ k := by kernel_rfl
theorem turn9_5 (O : Orc) (n m : Nat) (d0 d1 d2 d3 d4 : UInt8) (rc : RC R) (k : Ex → St → Option R) :
    evC tys e27 l27_0 (callF tys fns O (run tys fns O (n + 100))) rc ⟨[(0, .ptr 1 0), (3, nl), (4, .v (.int .i64 (.ofNat (m + 1))))], H9 [1, d0, d1, d2, d3, d4] 6 0⟩ k = rc e27 l27_0 ⟨[(0, .ptr 1 0), (3, .row 7 0 1 1 4), (4, .v (.int .i64 (wrapq .i64 (Int.ofNat (m + 1) - Int.ofNat 1))))], ⟨[(7, ⟨[(sb []), (i 0), nl, (i 0)], 4, true, 0⟩), (6, ⟨[(sb []), (i 0), nl, (i 0)], 4, false, 0⟩), (5, ⟨[nl, (i 0)], 2, false, 0⟩), (4, ⟨[nl, (i 0)], 2, false, 0⟩), (3, ⟨[(sb []), (i 0), nl, (i 0)], 4, false, 0⟩), (2, ⟨[bt true, nl, nl, sb [], bt false, nl], 6, false, 0⟩), (1, rd [1, d0, d1, d2, d3, d4] 6 26), (0, ⟨[bt false, nl, nl, sb [], bt false, nl], 6, false, 0⟩)], 8, []⟩⟩ k := by kernel_rfl
theorem turn9_6 (O : Orc) (n m : Nat) (d0 d1 d2 d3 d4 d5 : UInt8) (rc : RC R) (k : Ex → St → Option R) :
    evC tys e27 l27_0 (callF tys fns O (run tys fns O (n + 100))) rc ⟨[(0, .ptr 1 0), (3, nl), (4, .v (.int .i64 (.ofNat (m + 1))))], H9 [1, d0, d1, d2, d3, d4, d5] 7 0⟩ k = rc e27 l27_0 ⟨[(0, .ptr 1 0), (3, .row 7 0 1 1 4), (4, .v (.int .i64 (wrapq .i64 (Int.ofNat (m + 1) - Int.ofNat 1))))], ⟨[(7, ⟨[(sb []), (i 0), nl, (i 0)], 4, true, 0⟩), (6, ⟨[(sb []), (i 0), nl, (i 0)], 4, false, 0⟩), (5, ⟨[nl, (i 0)], 2, false, 0⟩), (4, ⟨[nl, (i 0)], 2, false, 0⟩), (3, ⟨[(sb []), (i 0), nl, (i 0)], 4, false, 0⟩), (2, ⟨[bt true, nl, nl, sb [], bt false, nl], 6, false, 0⟩), (1, rd [1, d0, d1, d2, d3, d4, d5] 7 26), (0, ⟨[bt false, nl, nl, sb [], bt false, nl], 6, false, 0⟩)], 8, []⟩⟩ k := by kernel_rfl
theorem turn9_7 (O : Orc) (n m : Nat) (d0 d1 d2 d3 d4 d5 d6 : UInt8) (rc : RC R) (k : Ex → St → Option R) :
    evC tys e27 l27_0 (callF tys fns O (run tys fns O (n + 100))) rc ⟨[(0, .ptr 1 0), (3, nl), (4, .v (.int .i64 (.ofNat (m + 1))))], H9 [1, d0, d1, d2, d3, d4, d5, d6] 8 0⟩ k = rc e27 l27_0 ⟨[(0, .ptr 1 0), (3, .row 7 0 1 1 4), (4, .v (.int .i64 (wrapq .i64 (Int.ofNat (m + 1) - Int.ofNat 1))))], ⟨[(7, ⟨[(sb []), (i 0), nl, (i 0)], 4, true, 0⟩), (6, ⟨[(sb []), (i 0), nl, (i 0)], 4, false, 0⟩), (5, ⟨[nl, (i 0)], 2, false, 0⟩), (4, ⟨[nl, (i 0)], 2, false, 0⟩), (3, ⟨[(sb []), (i 0), nl, (i 0)], 4, false, 0⟩), (2, ⟨[bt true, nl, nl, sb [], bt false, nl], 6, false, 0⟩), (1, rd [1, d0, d1, d2, d3, d4, d5, d6] 8 26), (0, ⟨[bt false, nl, nl, sb [], bt false, nl], 6, false, 0⟩)], 8, []⟩⟩ k := by kernel_rfl
theorem turn9_8 (O : Orc) (n m : Nat) (d0 d1 d2 d3 d4 d5 d6 d7 : UInt8) (rc : RC R) (k : Ex → St → Option R) :
    evC tys e27 l27_0 (callF tys fns O (run tys fns O (n + 100))) rc ⟨[(0, .ptr 1 0), (3, nl), (4, .v (.int .i64 (.ofNat (m + 1))))], H9 [1, d0, d1, d2, d3, d4, d5, d6, d7] 9 0⟩ k = rc e27 l27_0 ⟨[(0, .ptr 1 0), (3, .row 7 0 1 1 4), (4, .v (.int .i64 (wrapq .i64 (Int.ofNat (m + 1) - Int.ofNat 1))))], ⟨[(7, ⟨[(sb []), (i 0), nl, (i 0)], 4, true, 0⟩), (6, ⟨[(sb []), (i 0), nl, (i 0)], 4, false, 0⟩), (5, ⟨[nl, (i 0)], 2, false, 0⟩), (4, ⟨[nl, (i 0)], 2, false, 0⟩), (3, ⟨[(sb []), (i 0), nl, (i 0)], 4, false, 0⟩), (2, ⟨[bt true, nl, nl, sb [], bt false, nl], 6, false, 0⟩), (1, rd [1, d0, d1, d2, d3, d4, d5, d6, d7] 9 26), (0, ⟨[bt false, nl, nl, sb [], bt false, nl], 6, false, 0⟩)], 8, []⟩⟩ k := by kernel_rfl
theorem turn9_9 (O : Orc) (n m : Nat) (d0 d1 d2 d3 d4 d5 d6 d7 d8 : UInt8) (rc : RC R) (k : Ex → St → Option R) :
    evC tys e27 l27_0 (callF tys fns O (run tys fns O (n + 100))) rc ⟨[(0, .ptr 1 0), (3, nl), (4, .v (.int .i64 (.ofNat (m + 1))))], H9 [1, d0, d1, d2, d3, d4, d5, d6, d7, d8] 10 0⟩ k = rc e27 l27_0 ⟨[(0, .ptr 1 0), (3, .row 7 0 1 1 4), (4, .v (.int .i64 (wrapq .i64 (Int.ofNat (m + 1) - Int.ofNat 1))))], ⟨[(7, ⟨[(sb []), (i 0), nl, (i 0)], 4, true, 0⟩), (6, ⟨[(sb []), (i 0), nl, (i 0)], 4, false, 0⟩), (5, ⟨[nl, (i 0)], 2, false, 0⟩), (4, ⟨[nl, (i 0)], 2, false, 0⟩), (3, ⟨[(sb []), (i 0), nl, (i 0)], 4, false, 0⟩), (2, ⟨[bt true, nl, nl, sb [], bt false, nl], 6, false, 0⟩), (1, rd [1, d0, d1, d2, d3, d4, d5, d6, d7, d8] 10 26), (0, ⟨[bt false, nl, nl, sb [], bt false, nl], 6, false, 0⟩)], 8, []⟩⟩ k := by kernel_rfl
theorem turn9_10 (O : Orc) (n m : Nat) (d0 d1 d2 d3 d4 d5 d6 d7 d8 d9 : UInt8) (rc : RC R) (k : Ex → St → Option R) :
    evC tys e27 l27_0 (callF tys fns O (run tys fns O (n + 100))) rc ⟨[(0, .ptr 1 0), (3, nl), (4, .v (.int .i64 (.ofNat (m + 1))))], H9 [1, d0, d1, d2, d3, d4, d5, d6, d7, d8, d9] 11 0⟩ k = rc e27 l27_0 ⟨[(0, .ptr 1 0), (3, .row 7 0 1 1 4), (4, .v (.int .i64 (wrapq .i64 (Int.ofNat (m + 1) - Int.ofNat 1))))], ⟨[(7, ⟨[(sb []), (i 0), nl, (i 0)], 4, true, 0⟩), (6, ⟨[(sb []), (i 0), nl, (i 0)], 4, false, 0⟩), (5, ⟨[nl, (i 0)], 2, false, 0⟩), (4, ⟨[nl, (i 0)], 2, false, 0⟩), (3, ⟨[(sb []), (i 0), nl, (i 0)], 4, false, 0⟩), (2, ⟨[bt true, nl, nl, sb [], bt false, nl], 6, false, 0⟩), (1, rd [1, d0, d1, d2, d3, d4, d5, d6, d7, d8, d9] 11 26), (0, ⟨[bt false, nl, nl, sb [], bt false, nl], 6, false, 0⟩)], 8, []⟩⟩ k := by kernel_rfl
theorem turn9 (O : Orc) (n m : Nat) (l : List UInt8) (h1 : 1 ≤ l.length) (h2 : l.length ≤ 10) (rc : RC R) (k : Ex → St → Option R) :
    evC tys e27 l27_0 (callF tys fns O (run tys fns O (n + 100))) rc ⟨[(0, .ptr 1 0), (3, nl), (4, .v (.int .i64 (.ofNat (m + 1))))], H9 (1 :: l) (1 :: l).length 0⟩ k = rc e27 l27_0 ⟨[(0, .ptr 1 0), (3, .row 7 0 1 1 4), (4, .v (.int .i64 (wrapq .i64 (Int.ofNat (m + 1) - Int.ofNat 1))))], ⟨[(7, ⟨[(sb []), (i 0), nl, (i 0)], 4, true, 0⟩), (6, ⟨[(sb []), (i 0), nl, (i 0)], 4, false, 0⟩), (5, ⟨[nl, (i 0)], 2, false, 0⟩), (4, ⟨[nl, (i 0)], 2, false, 0⟩), (3, ⟨[(sb []), (i 0), nl, (i 0)], 4, false, 0⟩), (2, ⟨[bt true, nl, nl, sb [], bt false, nl], 6, false, 0⟩), (1, rd (1 :: l) (1 :: l).length 26), (0, ⟨[bt false, nl, nl, sb [], bt false, nl], 6, false, 0⟩)], 8, []⟩⟩ k := by
  match l, h1, h2 with
  | [d0], _, _ => exact turn9_1 O n m d0 rc k
  | [d0, d1], _, _ => exact turn9_2 O n m d0 d1 rc k
  | [d0, d1, d2], _, _ => exact turn9_3 O n m d0 d1 d2 rc k
  | [d0, d1, d2, d3], _, _ => exact turn9_4 O n m d0 d1 d2 d3 rc k
  | [d0, d1, d2, d3, d4], _, _ => exact turn9_5 O n m d0 d1 d2 d3 d4 rc k
  | [d0, d1, d2, d3, d4, d5], _, _ => exact turn9_6 O n m d0 d1 d2 d3 d4 d5 rc k
  | [d0, d1, d2, d3, d4, d5, d6], _, _ => exact turn9_7 O n m d0 d1 d2 d3 d4 d5 d6 rc k
  | [d0, d1, d2, d3, d4, d5, d6, d7], _, _ => exact turn9_8 O n m d0 d1 d2 d3 d4 d5 d6 d7 rc k
  | [d0, d1, d2, d3, d4, d5, d6, d7, d8], _, _ => exact turn9_9 O n m d0 d1 d2 d3 d4 d5 d6 d7 d8 rc k
  | [d0, d1, d2, d3, d4, d5, d6, d7, d8, d9], _, _ => exact turn9_10 O n m d0 d1 d2 d3 d4 d5 d6 d7 d8 d9 rc k
  | _ :: _ :: _ :: _ :: _ :: _ :: _ :: _ :: _ :: _ :: _ :: _, _, h => exact absurd h (by simp)
theorem fin9a_1 (O : Orc) (n : Nat) (d0 : UInt8) (hp : Hp) (k : PV → Hp → Option R) :
    run tys fns O (n + 100) e27 l27_0 ⟨[(0, .ptr 1 0), (3, .row 7 0 1 1 4), (4, i 0)], ⟨[(7, ⟨[(sb []), (i 0), nl, (i 0)], 4, true, 0⟩), (6, ⟨[(sb []), (i 0), nl, (i 0)], 4, false, 0⟩), (5, ⟨[nl, (i 0)], 2, false, 0⟩), (4, ⟨[nl, (i 0)], 2, false, 0⟩), (3, ⟨[(sb []), (i 0), nl, (i 0)], 4, false, 0⟩), (2, ⟨[bt true, nl, nl, sb [], bt false, nl], 6, false, 0⟩), (1, rd [1, d0] 2 26), (0, ⟨[bt false, nl, nl, sb [], bt false, nl], 6, false, 0⟩)], 8, []⟩⟩ (blockK 0 (seqK (fun st' => evC tys e27 (.seq r27_10 .ret) (callF tys fns O (run tys fns O (n + 100))) (run tys fns O (n + 100)) st' (endK tys e27.fn (fun y1 g1 =>
  bP (primFieldAddr tys g1 32 1 (some (.ptr 2 0))) fun y2 g2 =>
  bP (primStore tys g2 24 (some y2) (some y1)) fun y3 g3 =>
  (seqK (fun st' => evC tys e9 (.seq (.seq r9_7 (.block 0 l9_0)) (.seq r9_15 (.seq r9_16 (.seq (.seq r9_17 (.cond (.tmp 68) (.seq r9_18 .ret) .skip)) (.seq r9_19 .ret))))) (callF tys fns O (run tys fns O (n + 101))) (run tys fns O (n + 101)) st' (endK tys e9.fn (dataK k hp))) (endK tys e9.fn (dataK k hp))) .normal ⟨[(2, .ptr 0 0), (6, .ptr 1 0), (7, .ptr 2 0)], g3⟩))) (endK tys e27.fn (fun y1 g1 =>
  bP (primFieldAddr tys g1 32 1 (some (.ptr 2 0))) fun y2 g2 =>
  bP (primStore tys g2 24 (some y2) (some y1)) fun y3 g3 =>
  (seqK (fun st' => evC tys e9 (.seq (.seq r9_7 (.block 0 l9_0)) (.seq r9_15 (.seq r9_16 (.seq (.seq r9_17 (.cond (.tmp 68) (.seq r9_18 .ret) .skip)) (.seq r9_19 .ret))))) (callF tys fns O (run tys fns O (n + 101))) (run tys fns O (n + 101)) st' (endK tys e9.fn (dataK k hp))) (endK tys e9.fn (dataK k hp))) .normal ⟨[(2, .ptr 0 0), (6, .ptr 1 0), (7, .ptr 2 0)], g3⟩)))) = k (.tup [rp0, i 26]) hp := by kernel_rfl
theorem fin9a_2 (O : Orc) (n : Nat) (d0 d1 : UInt8) (hp : Hp) (k : PV → Hp → Option R) :
    run tys fns O (n + 100) e27 l27_0 ⟨[(0, .ptr 1 0), (3, .row 7 0 1 1 4), (4, i 0)], ⟨[(7, ⟨[(sb []), (i 0), nl, (i 0)], 4, true, 0⟩), (6, ⟨[(sb []), (i 0), nl, (i 0)], 4, false, 0⟩), (5, ⟨[nl, (i 0)], 2, false, 0⟩), (4, ⟨[nl, (i 0)], 2, false, 0⟩), (3, ⟨[(sb []), (i 0), nl, (i 0)], 4, false, 0⟩), (2, ⟨[bt true, nl, nl, sb [], bt false, nl], 6, false, 0⟩), (1, rd [1, d0, d1] 3 26), (0, ⟨[bt false, nl, nl, sb [], bt false, nl], 6, false, 0⟩)], 8, []⟩⟩ (blockK 0 (seqK (fun st' => evC tys e27 (.seq r27_10 .ret) (callF tys fns O (run tys fns O (n + 100))) (run tys fns O (n + 100)) st' (endK tys e27.fn (fun y1 g1 =>
  bP (primFieldAddr tys g1 32 1 (some (.ptr 2 0))) fun y2 g2 =>
  bP (primStore tys g2 24 (some y2) (some y1)) fun y3 g3 =>
  (seqK (fun st' => evC tys e9 (.seq (.seq r9_7 (.block 0 l9_0)) (.seq r9_15 (.seq r9_16 (.seq (.seq r9_17 (.cond (.tmp 68) (.seq r9_18 .ret) .skip)) (.seq r9_19 .ret))))) (callF tys fns O (run tys fns O (n + 101))) (run tys fns O (n + 101)) st' (endK tys e9.fn (dataK k hp))) (endK tys e9.fn (dataK k hp))) .normal ⟨[(2, .ptr 0 0), (6, .ptr 1 0), (7, .ptr 2 0)], g3⟩))) (endK tys e27.fn (fun y1 g1 =>
  bP (primFieldAddr tys g1 32 1 (some (.ptr 2 0))) fun y2 g2 =>
  bP (primStore tys g2 24 (some y2) (some y1)) fun y3 g3 =>
  (seqK (fun st' => evC tys e9 (.seq (.seq r9_7 (.block 0 l9_0)) (.seq r9_15 (.seq r9_16 (.seq (.seq r9_17 (.cond (.tmp 68) (.seq r9_18 .ret) .skip)) (.seq r9_19 .ret))))) (callF tys fns O (run tys fns O (n + 101))) (run tys fns O (n + 101)) st' (endK tys e9.fn (dataK k hp))) (endK tys e9.fn (dataK k hp))) .normal ⟨[(2, .ptr 0 0), (6, .ptr 1 0), (7, .ptr 2 0)], g3⟩)))) = k (.tup [rp0, i 26]) hp := by kernel_rfl
theorem fin9a_3 (O : Orc) (n : Nat) (d0 d1 d2 : UInt8) (hp : Hp) (k : PV → Hp → Option R) :
    run tys fns O (n + 100) e27 l27_0 ⟨[(0, .ptr 1 0), (3, .row 7 0 1 1 4), (4, i 0)], ⟨[(7, ⟨[(sb []), (i 0), nl, (i 0)], 4, true, 0⟩), (6, ⟨[(sb []), (i 0), nl, (i 0)], 4, false, 0⟩), (5, ⟨[nl, (i 0)], 2, false, 0⟩), (4, ⟨[nl, (i 0)], 2, false, 0⟩), (3, ⟨[(sb []), (i 0), nl, (i 0)], 4, false, 0⟩), (2, ⟨[bt true, nl, nl, sb [], bt false, nl], 6, false, 0⟩), (1, rd [1, d0, d1, d2] 4 26), (0, ⟨[bt false, nl, nl, sb [], bt false, nl], 6, false, 0⟩)], 8, []⟩⟩ (blockK 0 (seqK (fun st' => evC tys e27 (.seq r27_10 .ret) (callF tys fns O (run tys fns O (n + 100))) (run tys fns O (n + 100)) st' (endK tys e27.fn (fun y1 g1 =>
  bP (primFieldAddr tys g1 32 1 (some (.ptr 2 0))) fun y2 g2 =>
  bP (primStore tys g2 24 (some y2) (some y1)) fun y3 g3 =>
  (seqK (fun st' => evC tys e9 (.seq (.seq r9_7 (.block 0 l9_0)) (.seq r9_15 (.seq r9_16 (.seq (.seq r9_17 (.cond (.tmp 68) (.seq r9_18 .ret) .skip)) (.seq r9_19 .ret))))) (callF tys fns O (run tys fns O (n + 101))) (run tys fns O (n + 101)) st' (endK tys e9.fn (dataK k hp))) (endK tys e9.fn (dataK k hp))) .normal ⟨[(2, .ptr 0 0), (6, .ptr 1 0), (7, .ptr 2 0)], g3⟩))) (endK tys e27.fn (fun y1 g1 =>
  bP (primFieldAddr tys g1 32 1 (some (.ptr 2 0))) fun y2 g2 =>
  bP (primStore tys g2 24 (some y2) (some y1)) fun y3 g3 =>
  (seqK (fun st' => evC tys e9 (.seq (.seq r9_7 (.block 0 l9_0)) (.seq r9_15 (.seq r9_16 (.seq (.seq r9_17 (.cond (.tmp 68) (.seq r9_18 .ret) .skip)) (.seq r9_19 .ret))))) (callF tys fns O (run tys fns O (n + 101))) (run tys fns O (n + 101)) st' (endK tys e9.fn (dataK k hp))) (endK tys e9.fn (dataK k hp))) .normal ⟨[(2, .ptr 0 0), (6, .ptr 1 0), (7, .ptr 2 0)], g3⟩)))) = k (.tup [rp0, i 26]) hp := by kernel_rfl
theorem fin9a_4 (O : Orc) (n : Nat) (d0 d1 d2 d3 : UInt8) (hp : Hp) (k : PV → Hp → Option R) :
    run tys fns O (n + 100) e27 l27_0 ⟨[(0, .ptr 1 0), (3, .row 7 0 1 1 4), (4, i 0)], ⟨[(7, ⟨[(sb []), (i 0), nl, (i 0)], 4, true, 0⟩), (6, ⟨[(sb []), (i 0), nl, (i 0)], 4, false, 0⟩), (5, ⟨[nl, (i 0)], 2, false, 0⟩), (4, ⟨[nl, (i 0)], 2, false, 0⟩), (3, ⟨[(sb []), (i 0), nl, (i 0)], 4, false, 0⟩), (2, ⟨[bt true, nl, nl, sb [], bt false, nl], 6, false, 0⟩), (1, rd [1, d0, d1, d2, d3] 5 26), (0, ⟨[bt false, nl, nl, sb [], bt false, nl], 6, false, 0⟩)], 8, []⟩⟩ (blockK 0 (seqK (fun st' => evC tys e27 (.seq r27_10 .ret) (callF tys fns O (run tys fns O (n + 100))) (run tys fns O (n + 100)) st' (endK tys e27.fn (fun y1 g1 =>
  bP (primFieldAddr tys g1 32 1 (some (.ptr 2 0))) fun y2 g2 =>
  bP (primStore tys g2 24 (some y2) (some y1)) fun y3 g3 =>
  (seqK (fun st' => evC tys e9 (.seq (.seq r9_7 (.block 0 l9_0)) (.seq r9_15 (.seq r9_16 (.seq (.seq r9_17 (.cond (.tmp 68) (.seq r9_18 .ret) .skip)) (.seq r9_19 .ret))))) (callF tys fns O (run tys fns O (n + 101))) (run tys fns O (n + 101)) st' (endK tys e9.fn (dataK k hp))) (endK tys e9.fn (dataK k hp))) .normal ⟨[(2, .ptr 0 0), (6, .ptr 1 0), (7, .ptr 2 0)], g3⟩))) (endK tys e27.fn (fun y1 g1 =>
  bP (primFieldAddr tys g1 32 1 (some (.ptr 2 0))) fun y2 g2 =>
  bP (primStore tys g2 24 (some y2) (some y1)) fun y3 g3 =>
  (seqK (fun st' => evC tys e9 (.seq (.seq r9_7 (.block 0 l9_0)) (.seq r9_15 (.seq r9_16 (.seq (.seq r9_17 (.cond (.tmp 68) (.seq r9_18 .ret) .skip)) (.seq r9_19 .ret))))) (callF tys fns O (run tys fns O (n + 101))) (run tys fns O (n + 101)) st' (endK tys e9.fn (dataK k hp))) (endK tys e9.fn (dataK k hp))) .normal ⟨[(2, .ptr 0 0), (6, .ptr 1 0), (7, .ptr 2 0)], g3⟩)))) = k (.tup [rp0, i 26]) hp := by kernel_rfl
theorem fin9a_5 (O : Orc) (n : Nat) (d0 d1 d2 d3 d4 : UInt8) (hp : Hp) (k : PV → Hp → Option R) :
    run tys fns O (n + 100) e27 l27_0 ⟨[(0, .ptr 1 0), (3, .row 7 0 1 1 4), (4, i 0)], ⟨[(7, ⟨[(sb []), (i 0), nl, (i 0)], 4, true, 0⟩), (6, ⟨[(sb []), (i 0), nl, (i 0)], 4, false, 0⟩), (5, ⟨[nl, (i 0)], 2, false, 0⟩), (4, ⟨[nl, (i 0)], 2, false, 0⟩), (3, ⟨[(sb []), (i 0), nl, (i 0)], 4, false, 0⟩), (2, ⟨[bt true, nl, nl, sb [], bt false, nl], 6, false, 0⟩), (1, rd [1, d0, d1, d2, d3, d4] 6 26), (0, ⟨[bt false, nl, nl, sb [], bt false, nl], 6, false, 0⟩)], 8, []⟩⟩ (blockK 0 (seqK (fun st' => evC tys e27 (.seq r27_10 .ret) (callF tys fns O (run tys fns O (n + 100))) (run tys fns O (n + 100)) st' (endK tys e27.fn (fun y1 g1 =>
  bP (primFieldAddr tys g1 32 1 (some (.ptr 2 0))) fun y2 g2 =>
  bP (primStore tys g2 24 (some y2) (some y1)) fun y3 g3 =>
  (seqK (fun st' => evC tys e9 (.seq (.seq r9_7 (.block 0 l9_0)) (.seq r9_15 (.seq r9_16 (.seq (.seq r9_17 (.cond (.tmp 68) (.seq r9_18 .ret) .skip)) (.seq r9_19 .ret))))) (callF tys fns O (run tys fns O (n + 101))) (run tys fns O (n + 101)) st' (endK tys e9.fn (dataK k hp))) (endK tys e9.fn (dataK k hp))) .normal ⟨[(2, .ptr 0 0), (6, .ptr 1 0), (7, .ptr 2 0)], g3⟩))) (endK tys e27.fn (fun y1 g1 =>
  bP (primFieldAddr tys g1 32 1 (some (.ptr 2 0))) fun y2 g2 =>
  bP (primStore tys g2 24 (some y2) (some y1)) fun y3 g3 =>
  (seqK (fun st' => evC tys e9 (.seq (.seq r9_7 (.block 0 l9_0)) (.seq r9_15 (.seq r9_16 (.seq (.seq r9_17 (.cond (.tmp 68) (.seq r9_18 .ret) .skip)) (.seq r9_19 .ret))))) (callF tys fns O (run tys fns O (n + 101))) (run tys fns O (n + 101)) st' (endK tys e9.fn (dataK k hp))) (endK tys e9.fn (dataK k hp))) .normal ⟨[(2, .ptr 0 0), (6, .ptr 1 0), (7, .ptr 2 0)], g3⟩)))) = k (.tup [rp0, i 26]) hp := by kernel_rfl
theorem fin9a_6 (O : Orc) (n : Nat) (d0 d1 d2 d3 d4 d5 : UInt8) (hp : Hp) (k : PV → Hp → Option R) :
    run tys fns O (n + 100) e27 l27_0 ⟨[(0, .ptr 1 0), (3, .row 7 0 1 1 4), (4, i 0)], ⟨[(7, ⟨[(sb []), (i 0), nl, (i 0)], 4, true, 0⟩), (6, ⟨[(sb []), (i 0), nl, (i 0)], 4, false, 0⟩), (5, ⟨[nl, (i 0)], 2, false, 0⟩), (4, ⟨[nl, (i 0)], 2, false, 0⟩), (3, ⟨[(sb []), (i 0), nl, (i 0)], 4, false, 0⟩), (2, ⟨[bt true, nl, nl, sb [], bt false, nl], 6, false, 0⟩), (1, rd [1, d0, d1, d2, d3, d4, d5] 7 26), (0, ⟨[bt false, nl, nl, sb [], bt false, nl], 6, false, 0⟩)], 8, []⟩⟩ (blockK 0 (seqK (fun st' => evC tys e27 (.seq r27_10 .ret) (callF tys fns O (run tys fns O (n + 100))) (run tys fns O (n + 100)) st' (endK tys e27.fn (fun y1 g1 =>
  bP (primFieldAddr tys g1 32 1 (some (.ptr 2 0))) fun y2 g2 =>
  bP (primStore tys g2 24 (some y2) (some y1)) fun y3 g3 =>
  (seqK (fun st' => evC tys e9 (.seq (.seq r9_7 (.block 0 l9_0)) (.seq r9_15 (.seq r9_16 (.seq (.seq r9_17 (.cond (.tmp 68) (.seq r9_18 .ret) .skip)) (.seq r9_19 .ret))))) (callF tys fns O (run tys fns O (n + 101))) (run tys fns O (n + 101)) st' (endK tys e9.fn (dataK k hp))) (endK tys e9.fn (dataK k hp))) .normal ⟨[(2, .ptr 0 0), (6, .ptr 1 0), (7, .ptr 2 0)], g3⟩))) (endK tys e27.fn (fun y1 g1 =>
  bP (primFieldAddr tys g1 32 1 (some (.ptr 2 0))) fun y2 g2 =>
  bP (primStore tys g2 24 (some y2) (some y1)) fun y3 g3 =>
  (seqK (fun st' => evC tys e9 (.seq (.seq r9_7 (.block 0 l9_0)) (.seq r9_15 (.seq r9_16 (.seq (.seq r9_17 (.cond (.tmp 68) (.seq r9_18 .ret) .skip)) (.seq r9_19 .ret))))) (callF tys fns O (run tys fns O (n + 101))) (run tys fns O (n + 101)) st' (endK tys e9.fn (dataK k hp))) (endK tys e9.fn (dataK k hp))) .normal ⟨[(2, .ptr 0 0), (6, .ptr 1 0), (7, .ptr 2 0)], g3⟩)))) = k (.tup [rp0, i 26]) hp := by kernel_rfl
theorem fin9a_7 (O : Orc) (n : Nat) (d0 d1 d2 d3 d4 d5 d6 : UInt8) (hp : Hp) (k : PV → Hp → Option R) :
    run tys fns O (n + 100) e27 l27_0 ⟨[(0, .ptr 1 0), (3, .row 7 0 1 1 4), (4, i 0)], ⟨[(7, ⟨[(sb []), (i 0), nl, (i 0)], 4, true, 0⟩), (6, ⟨[(sb []), (i 0), nl, (i 0)], 4, false, 0⟩), (5, ⟨[nl, (i 0)], 2, false, 0⟩), (4, ⟨[nl, (i 0)], 2, false, 0⟩), (3, ⟨[(sb []), (i 0), nl, (i 0)], 4, false, 0⟩), (2, ⟨[bt true, nl, nl, sb [], bt false, nl], 6, false, 0⟩), (1, rd [1, d0, d1, d2, d3, d4, d5, d6] 8 26), (0, ⟨[bt false, nl, nl, sb [], bt false, nl], 6, false, 0⟩)], 8, []⟩⟩ (blockK 0 (seqK (fun st' => evC tys e27 (.seq r27_10 .ret) (callF tys fns O (run tys fns O (n + 100))) (run tys fns O (n + 100)) st' (endK tys e27.fn (fun y1 g1 =>
  bP (primFieldAddr tys g1 32 1 (some (.ptr 2 0))) fun y2 g2 =>
  bP (primStore tys g2 24 (some y2) (some y1)) fun y3 g3 =>
  (seqK (fun st' => evC tys e9 (.seq (.seq r9_7 (.block 0 l9_0)) (.seq r9_15 (.seq r9_16 (.seq (.seq r9_17 (.cond (.tmp 68) (.seq r9_18 .ret) .skip)) (.seq r9_19 .ret))))) (callF tys fns O (run tys fns O (n + 101))) (run tys fns O (n + 101)) st' (endK tys e9.fn (dataK k hp))) (endK tys e9.fn (dataK k hp))) .normal ⟨[(2, .ptr 0 0), (6, .ptr 1 0), (7, .ptr 2 0)], g3⟩))) (endK tys e27.fn (fun y1 g1 =>
  bP (primFieldAddr tys g1 32 1 (some (.ptr 2 0))) fun y2 g2 =>
  bP (primStore tys g2 24 (some y2) (some y1)) fun y3 g3 =>
  (seqK (fun st' => evC tys e9 (.seq (.seq r9_7 (.block 0 l9_0)) (.seq r9_15 (.seq r9_16 (.seq (.seq r9_17 (.cond (.tmp 68) (.seq r9_18 .ret) .skip)) (.seq r9_19 .ret))))) (callF tys fns O (run tys fns O (n + 101))) (run tys fns O (n + 101)) st' (endK tys e9.fn (dataK k hp))) (endK tys e9.fn (dataK k hp))) .normal ⟨[(2, .ptr 0 0), (6, .ptr 1 0), (7, .ptr 2 0)], g3⟩)))) = k (.tup [rp0, i 26]) hp := by kernel_rfl
theorem fin9a_8 (O : Orc) (n : Nat) (d0 d1 d2 d3 d4 d5 d6 d7 : UInt8) (hp : Hp) (k : PV → Hp → Option R) :
    run tys fns O (n + 100) e27 l27_0 ⟨[(0, .ptr 1 0), (3, .row 7 0 1 1 4), (4, i 0)], ⟨[(7, ⟨[(sb []), (i 0), nl, (i 0)], 4, true, 0⟩), (6, ⟨[(sb []), (i 0), nl, (i 0)], 4, false, 0⟩), (5, ⟨[nl, (i 0)], 2, false, 0⟩), (4, ⟨[nl, (i 0)], 2, false, 0⟩), (3, ⟨[(sb []), (i 0), nl, (i 0)], 4, false, 0⟩), (2, ⟨[bt true, nl, nl, sb [], bt false, nl], 6, false, 0⟩), (1, rd [1, d0, d1, d2, d3, d4, d5, d6, d7] 9 26), (0, ⟨[bt false, nl, nl, sb [], bt false, nl], 6, false, 0⟩)], 8, []⟩⟩ (blockK 0 (seqK (fun st' => evC tys e27 (.seq r27_10 .ret) (callF tys fns O (run tys fns O (n + 100))) (run tys fns O (n + 100)) st' (endK tys e27.fn (fun y1 g1 =>
  bP (primFieldAddr tys g1 32 1 (some (.ptr 2 0))) fun y2 g2 =>
  bP (primStore tys g2 24 (some y2) (some y1)) fun y3 g3 =>
  (seqK (fun st' => evC tys e9 (.seq (.seq r9_7 (.block 0 l9_0)) (.seq r9_15 (.seq r9_16 (.seq (.seq r9_17 (.cond (.tmp 68) (.seq r9_18 .ret) .skip)) (.seq r9_19 .ret))))) (callF tys fns O (run tys fns O (n + 101))) (run tys fns O (n + 101)) st' (endK tys e9.fn (dataK k hp))) (endK tys e9.fn (dataK k hp))) .normal ⟨[(2, .ptr 0 0), (6, .ptr 1 0), (7, .ptr 2 0)], g3⟩))) (endK tys e27.fn (fun y1 g1 =>
  bP (primFieldAddr tys g1 32 1 (some (.ptr 2 0))) fun y2 g2 =>
  bP (primStore tys g2 24 (some y2) (some y1)) fun y3 g3 =>
  (seqK (fun st' => evC tys e9 (.seq (.seq r9_7 (.block 0 l9_0)) (.seq r9_15 (.seq r9_16 (.seq (.seq r9_17 (.cond (.tmp 68) (.seq r9_18 .ret) .skip)) (.seq r9_19 .ret))))) (callF tys fns O (run tys fns O (n + 101))) (run tys fns O (n + 101)) st' (endK tys e9.fn (dataK k hp))) (endK tys e9.fn (dataK k hp))) .normal ⟨[(2, .ptr 0 0), (6, .ptr 1 0), (7, .ptr 2 0)], g3⟩)))) = k (.tup [rp0, i 26]) hp := by kernel_rfl
theorem fin9a_9 (O : Orc) (n : Nat) (d0 d1 d2 d3 d4 d5 d6 d7 d8 : UInt8) (hp : Hp) (k : PV → Hp → Option R) :
    run tys fns O (n + 100) e27 l27_0 ⟨[(0, .ptr 1 0), (3, .row 7 0 1 1 4), (4, i 0)], ⟨[(7, ⟨[(sb []), (i 0), nl, (i 0)], 4, true, 0⟩), (6, ⟨[(sb []), (i 0), nl, (i 0)], 4, false, 0⟩), (5, ⟨[nl, (i 0)], 2, false, 0⟩), (4, ⟨[nl, (i 0)], 2, false, 0⟩), (3, ⟨[(sb []), (i 0), nl, (i 0)], 4, false, 0⟩), (2, ⟨[bt true, nl, nl, sb [], bt false, nl], 6, false, 0⟩), (1, rd [1, d0, d1, d2, d3, d4, d5, d6, d7, d8] 10 26), (0, ⟨[bt false, nl, nl, sb [], bt false, nl], 6, false, 0⟩)], 8, []⟩⟩ (blockK 0 (seqK (fun st' => evC tys e27 (.seq r27_10 .ret) (callF tys fns O (run tys fns O (n + 100))) (run tys fns O (n + 100)) st' (endK tys e27.fn (fun y1 g1 =>
  bP (primFieldAddr tys g1 32 1 (some (.ptr 2 0))) fun y2 g2 =>
  bP (primStore tys g2 24 (some y2) (some y1)) fun y3 g3 =>
  (seqK (fun st' => evC tys e9 (.seq (.seq r9_7 (.block 0 l9_0)) (.seq r9_15 (.seq r9_16 (.seq (.seq r9_17 (.cond (.tmp 68) (.seq r9_18 .ret) .skip)) (.seq r9_19 .ret))))) (callF tys fns O (run tys fns O (n + 101))) (run tys fns O (n + 101)) st' (endK tys e9.fn (dataK k hp))) (endK tys e9.fn (dataK k hp))) .normal ⟨[(2, .ptr 0 0), (6, .ptr 1 0), (7, .ptr 2 0)], g3⟩))) (endK tys e27.fn (fun y1 g1 =>
  bP (primFieldAddr tys g1 32 1 (some (.ptr 2 0))) fun y2 g2 =>
  bP (primStore tys g2 24 (some y2) (some y1)) fun y3 g3 =>
  (seqK (fun st' => evC tys e9 (.seq (.seq r9_7 (.block 0 l9_0)) (.seq r9_15 (.seq r9_16 (.seq (.seq r9_17 (.cond (.tmp 68) (.seq r9_18 .ret) .skip)) (.seq r9_19 .ret))))) (callF tys fns O (run tys fns O (n + 101))) (run tys fns O (n + 101)) st' (endK tys e9.fn (dataK k hp))) (endK tys e9.fn (dataK k hp))) .normal ⟨[(2, .ptr 0 0), (6, .ptr 1 0), (7, .ptr 2 0)], g3⟩)))) = k (.tup [rp0, i 26]) hp := by kernel_rfl
theorem fin9a_10 (O : Orc) (n : Nat) (d0 d1 d2 d3 d4 d5 d6 d7 d8 d9 : UInt8) (hp : Hp) (k : PV → Hp → Option R) :
    run tys fns O (n + 100) e27 l27_0 ⟨[(0, .ptr 1 0), (3, .row 7 0 1 1 4), (4, i 0)], ⟨[(7, ⟨[(sb []), (i 0), nl, (i 0)], 4, true, 0⟩), (6, ⟨[(sb []), (i 0), nl, (i 0)], 4, false, 0⟩), (5, ⟨[nl, (i 0)], 2, false, 0⟩), (4, ⟨[nl, (i 0)], 2, false, 0⟩), (3, ⟨[(sb []), (i 0), nl, (i 0)], 4, false, 0⟩), (2, ⟨[bt true, nl, nl, sb [], bt false, nl], 6, false, 0⟩), (1, rd [1, d0, d1, d2, d3, d4, d5, d6, d7, d8, d9] 11 26), (0, ⟨[bt false, nl, nl, sb [], bt false, nl], 6, false, 0⟩)], 8, []⟩⟩ (blockK 0 (seqK (fun st' => evC tys e27 (.seq r27_10 .ret) (callF tys fns O (run tys fns O (n + 100))) (run tys fns O (n + 100)) st' (endK tys e27.fn (fun y1 g1 =>
  bP (primFieldAddr tys g1 32 1 (some (.ptr 2 0))) fun y2 g2 =>
  bP (primStore tys g2 24 (some y2) (some y1)) fun y3 g3 =>
  (seqK (fun st' => evC tys e9 (.seq (.seq r9_7 (.block 0 l9_0)) (.seq r9_15 (.seq r9_16 (.seq (.seq r9_17 (.cond (.tmp 68) (.seq r9_18 .ret) .skip)) (.seq r9_19 .ret))))) (callF tys fns O (run tys fns O (n + 101))) (run tys fns O (n + 101)) st' (endK tys e9.fn (dataK k hp))) (endK tys e9.fn (dataK k hp))) .normal ⟨[(2, .ptr 0 0), (6, .ptr 1 0), (7, .ptr 2 0)], g3⟩))) (endK tys e27.fn (fun y1 g1 =>
  bP (primFieldAddr tys g1 32 1 (some (.ptr 2 0))) fun y2 g2 =>
  bP (primStore tys g2 24 (some y2) (some y1)) fun y3 g3 =>
  (seqK (fun st' => evC tys e9 (.seq (.seq r9_7 (.block 0 l9_0)) (.seq r9_15 (.seq r9_16 (.seq (.seq r9_17 (.cond (.tmp 68) (.seq r9_18 .ret) .skip)) (.seq r9_19 .ret))))) (callF tys fns O (run tys fns O (n + 101))) (run tys fns O (n + 101)) st' (endK tys e9.fn (dataK k hp))) (endK tys e9.fn (dataK k hp))) .normal ⟨[(2, .ptr 0 0), (6, .ptr 1 0), (7, .ptr 2 0)], g3⟩)))) = k (.tup [rp0, i 26]) hp := by kernel_rfl
theorem fin9a (O : Orc) (n : Nat) (l : List UInt8) (h1 : 1 ≤ l.length) (h2 : l.length ≤ 10) (hp : Hp) (k : PV → Hp → Option R) :
    run tys fns O (n + 100) e27 l27_0 ⟨[(0, .ptr 1 0), (3, .row 7 0 1 1 4), (4, i 0)], ⟨[(7, ⟨[(sb []), (i 0), nl, (i 0)], 4, true, 0⟩), (6, ⟨[(sb []), (i 0), nl, (i 0)], 4, false, 0⟩), (5, ⟨[nl, (i 0)], 2, false, 0⟩), (4, ⟨[nl, (i 0)], 2, false, 0⟩), (3, ⟨[(sb []), (i 0), nl, (i 0)], 4, false, 0⟩), (2, ⟨[bt true, nl, nl, sb [], bt false, nl], 6, false, 0⟩), (1, rd (1 :: l) (1 :: l).length 26), (0, ⟨[bt false, nl, nl, sb [], bt false, nl], 6, false, 0⟩)], 8, []⟩⟩ (blockK 0 (seqK (fun st' => evC tys e27 (.seq r27_10 .ret) (callF tys fns O (run tys fns O (n + 100))) (run tys fns O (n + 100)) st' (endK tys e27.fn (fun y1 g1 =>
  bP (primFieldAddr tys g1 32 1 (some (.ptr 2 0))) fun y2 g2 =>
  bP (primStore tys g2 24 (some y2) (some y1)) fun y3 g3 =>
  (seqK (fun st' => evC tys e9 (.seq (.seq r9_7 (.block 0 l9_0)) (.seq r9_15 (.seq r9_16 (.seq (.seq r9_17 (.cond (.tmp 68) (.seq r9_18 .ret) .skip)) (.seq r9_19 .ret))))) (callF tys fns O (run tys fns O (n + 101))) (run tys fns O (n + 101)) st' (endK tys e9.fn (dataK k hp))) (endK tys e9.fn (dataK k hp))) .normal ⟨[(2, .ptr 0 0), (6, .ptr 1 0), (7, .ptr 2 0)], g3⟩))) (endK tys e27.fn (fun y1 g1 =>
  bP (primFieldAddr tys g1 32 1 (some (.ptr 2 0))) fun y2 g2 =>
  bP (primStore tys g2 24 (some y2) (some y1)) fun y3 g3 =>
  (seqK (fun st' => evC tys e9 (.seq (.seq r9_7 (.block 0 l9_0)) (.seq r9_15 (.seq r9_16 (.seq (.seq r9_17 (.cond (.tmp 68) (.seq r9_18 .ret) .skip)) (.seq r9_19 .ret))))) (callF tys fns O (run tys fns O (n + 101))) (run tys fns O (n + 101)) st' (endK tys e9.fn (dataK k hp))) (endK tys e9.fn (dataK k hp))) .normal ⟨[(2, .ptr 0 0), (6, .ptr 1 0), (7, .ptr 2 0)], g3⟩)))) = k (.tup [rp0, i 26]) hp := by
  match l, h1, h2 with
  | [d0], _, _ => exact fin9a_1 O n d0 hp k
  | [d0, d1], _, _ => exact fin9a_2 O n d0 d1 hp k
  | [d0, d1, d2], _, _ => exact fin9a_3 O n d0 d1 d2 hp k
  | [d0, d1, d2, d3], _, _ => exact fin9a_4 O n d0 d1 d2 d3 hp k
  | [d0, d1, d2, d3, d4], _, _ => exact fin9a_5 O n d0 d1 d2 d3 d4 hp k
  | [d0, d1, d2, d3, d4, d5], _, _ => exact fin9a_6 O n d0 d1 d2 d3 d4 d5 hp k
  | [d0, d1, d2, d3, d4, d5, d6], _, _ => exact fin9a_7 O n d0 d1 d2 d3 d4 d5 d6 hp k
  | [d0, d1, d2, d3, d4, d5, d6, d7], _, _ => exact fin9a_8 O n d0 d1 d2 d3 d4 d5 d6 d7 hp k
  | [d0, d1, d2, d3, d4, d5, d6, d7, d8], _, _ => exact fin9a_9 O n d0 d1 d2 d3 d4 d5 d6 d7 d8 hp k
  | [d0, d1, d2, d3, d4, d5, d6, d7, d8, d9], _, _ => exact fin9a_10 O n d0 d1 d2 d3 d4 d5 d6 d7 d8 d9 hp k
  | _ :: _ :: _ :: _ :: _ :: _ :: _ :: _ :: _ :: _ :: _ :: _, _, h => exact absurd h (by simp)
theorem fin9b_1 (O : Orc) (n : Nat) (m : Nat) (d0 : UInt8) (hp : Hp) (k : PV → Hp → Option R) :
    run tys fns O (n + 100) e27 l27_0 ⟨[(0, .ptr 1 0), (3, .row 7 0 1 1 4), (4, .v (.int .i64 (.ofNat (m + 1))))], ⟨[(7, ⟨[(sb []), (i 0), nl, (i 0)], 4, true, 0⟩), (6, ⟨[(sb []), (i 0), nl, (i 0)], 4, false, 0⟩), (5, ⟨[nl, (i 0)], 2, false, 0⟩), (4, ⟨[nl, (i 0)], 2, false, 0⟩), (3, ⟨[(sb []), (i 0), nl, (i 0)], 4, false, 0⟩), (2, ⟨[bt true, nl, nl, sb [], bt false, nl], 6, false, 0⟩), (1, rd [1, d0] 2 26), (0, ⟨[bt false, nl, nl, sb [], bt false, nl], 6, false, 0⟩)], 8, []⟩⟩ (blockK 0 (seqK (fun st' => evC tys e27 (.seq r27_10 .ret) (callF tys fns O (run tys fns O (n + 100))) (run tys fns O (n + 100)) st' (endK tys e27.fn (fun y1 g1 =>
  bP (primFieldAddr tys g1 32 1 (some (.ptr 2 0))) fun y2 g2 =>
  bP (primStore tys g2 24 (some y2) (some y1)) fun y3 g3 =>
  (seqK (fun st' => evC tys e9 (.seq (.seq r9_7 (.block 0 l9_0)) (.seq r9_15 (.seq r9_16 (.seq (.seq r9_17 (.cond (.tmp 68) (.seq r9_18 .ret) .skip)) (.seq r9_19 .ret))))) (callF tys fns O (run tys fns O (n + 101))) (run tys fns O (n + 101)) st' (endK tys e9.fn (dataK k hp))) (endK tys e9.fn (dataK k hp))) .normal ⟨[(2, .ptr 0 0), (6, .ptr 1 0), (7, .ptr 2 0)], g3⟩))) (endK tys e27.fn (fun y1 g1 =>
  bP (primFieldAddr tys g1 32 1 (some (.ptr 2 0))) fun y2 g2 =>
  bP (primStore tys g2 24 (some y2) (some y1)) fun y3 g3 =>
  (seqK (fun st' => evC tys e9 (.seq (.seq r9_7 (.block 0 l9_0)) (.seq r9_15 (.seq r9_16 (.seq (.seq r9_17 (.cond (.tmp 68) (.seq r9_18 .ret) .skip)) (.seq r9_19 .ret))))) (callF tys fns O (run tys fns O (n + 101))) (run tys fns O (n + 101)) st' (endK tys e9.fn (dataK k hp))) (endK tys e9.fn (dataK k hp))) .normal ⟨[(2, .ptr 0 0), (6, .ptr 1 0), (7, .ptr 2 0)], g3⟩)))) = k (.tup [rp0, i 26]) hp := by kernel_rfl
theorem fin9b_2 (O : Orc) (n : Nat) (m : Nat) (d0 d1 : UInt8) (hp : Hp) (k : PV → Hp → Option R) :
    run tys fns O (n + 100) e27 l27_0 ⟨[(0, .ptr 1 0), (3, .row 7 0 1 1 4), (4, .v (.int .i64 (.ofNat (m + 1))))], ⟨[(7, ⟨[(sb []), (i 0), nl, (i 0)], 4, true, 0⟩), (6, ⟨[(sb []), (i 0), nl, (i 0)], 4, false, 0⟩), (5, ⟨[nl, (i 0)], 2, false, 0⟩), (4, ⟨[nl, (i 0)], 2, false, 0⟩), (3, ⟨[(sb []), (i 0), nl, (i 0)], 4, false, 0⟩), (2, ⟨[bt true, nl, nl, sb [], bt false, nl], 6, false, 0⟩), (1, rd [1, d0, d1] 3 26), (0, ⟨[bt false, nl, nl, sb [], bt false, nl], 6, false, 0⟩)], 8, []⟩⟩ (blockK 0 (seqK (fun st' => evC tys e27 (.seq r27_10 .ret) (callF tys fns O (run tys fns O (n + 100))) (run tys fns O (n + 100)) st' (endK tys e27.fn (fun y1 g1 =>
  bP (primFieldAddr tys g1 32 1 (some (.ptr 2 0))) fun y2 g2 =>
  bP (primStore tys g2 24 (some y2) (some y1)) fun y3 g3 =>
  (seqK (fun st' => evC tys e9 (.seq (.seq r9_7 (.block 0 l9_0)) (.seq r9_15 (.seq r9_16 (.seq (.seq r9_17 (.cond (.tmp 68) (.seq r9_18 .ret) .skip)) (.seq r9_19 .ret))))) (callF tys fns O (run tys fns O (n + 101))) (run tys fns O (n + 101)) st' (endK tys e9.fn (dataK k hp))) (endK tys e9.fn (dataK k hp))) .normal ⟨[(2, .ptr 0 0), (6, .ptr 1 0), (7, .ptr 2 0)], g3⟩))) (endK tys e27.fn (fun y1 g1 =>
  bP (primFieldAddr tys g1 32 1 (some (.ptr 2 0))) fun y2 g2 =>
  bP (primStore tys g2 24 (some y2) (some y1)) fun y3 g3 =>
  (seqK (fun st' => evC tys e9 (.seq (.seq r9_7 (.block 0 l9_0)) (.seq r9_15 (.seq r9_16 (.seq (.seq r9_17 (.cond (.tmp 68) (.seq r9_18 .ret) .skip)) (.seq r9_19 .ret))))) (callF tys fns O (run tys fns O (n + 101))) (run tys fns O (n + 101)) st' (endK tys e9.fn (dataK k hp))) (endK tys e9.fn (dataK k hp))) .normal ⟨[(2, .ptr 0 0), (6, .ptr 1 0), (7, .ptr 2 0)], g3⟩)))) = k (.tup [rp0, i 26]) hp := by kernel_rfl
theorem fin9b_3 (O : Orc) (n : Nat) (m : Nat) (d0 d1 d2 : UInt8) (hp : Hp) (k : PV → Hp → Option R) :
    run tys fns O (n + 100) e27 l27_0 ⟨[(0, .ptr 1 0), (3, .row 7 0 1 1 4), (4, .v (.int .i64 (.ofNat (m + 1))))], ⟨[(7, ⟨[(sb []), (i 0), nl, (i 0)], 4, true, 0⟩), (6, ⟨[(sb []), (i 0), nl, (i 0)], 4, false, 0⟩), (5, ⟨[nl, (i 0)], 2, false, 0⟩), (4, ⟨[nl, (i 0)], 2, false, 0⟩), (3, ⟨[(sb []), (i 0), nl, (i 0)], 4, false, 0⟩), (2, ⟨[bt true, nl, nl, sb [], bt false, nl], 6, false, 0⟩), (1, rd [1, d0, d1, d2] 4 26), (0, ⟨[bt false, nl, nl, sb [], bt false, nl], 6, false, 0⟩)], 8, []⟩⟩ (blockK 0 (seqK (fun st' => evC tys e27 (.seq r27_10 .ret) (callF tys fns O (run tys fns O (n + 100))) (run tys fns O (n + 100)) st' (endK tys e27.fn (fun y1 g1 =>
  bP (primFieldAddr tys g1 32 1 (some (.ptr 2 0))) fun y2 g2 =>
  bP (primStore tys g2 24 (some y2) (some y1)) fun y3 g3 =>
  (seqK (fun st' => evC tys e9 (.seq (.seq r9_7 (.block 0 l9_0)) (.seq r9_15 (.seq r9_16 (.seq (.seq r9_17 (.cond (.tmp 68) (.seq r9_18 .ret) .skip)) (.seq r9_19 .ret))))) (callF tys fns O (run tys fns O (n + 101))) (run tys fns O (n + 101)) st' (endK tys e9.fn (dataK k hp))) (endK tys e9.fn (dataK k hp))) .normal ⟨[(2, .ptr 0 0), (6, .ptr 1 0), (7, .ptr 2 0)], g3⟩))) (endK tys e27.fn (fun y1 g1 =>
  bP (primFieldAddr tys g1 32 1 (some (.ptr 2 0))) fun y2 g2 =>
  bP (primStore tys g2 24 (some y2) (some y1)) fun y3 g3 =>
  (seqK (fun st' => evC tys e9 (.seq (.seq r9_7 (.block 0 l9_0)) (.seq r9_15 (.seq r9_16 (.seq (.seq r9_17 (.cond (.tmp 68) (.seq r9_18 .ret) .skip)) (.seq r9_19 .ret))))) (callF tys fns O (run tys fns O (n + 101))) (run tys fns O (n + 101)) st' (endK tys e9.fn (dataK k hp))) (endK tys e9.fn (dataK k hp))) .normal ⟨[(2, .ptr 0 0), (6, .ptr 1 0), (7, .ptr 2 0)], g3⟩)))) = k (.tup [rp0, i 26]) hp := by kernel_rfl
theorem fin9b_4 (O : Orc) (n : Nat) (m : Nat) (d0 d1 d2 d3 : UInt8) (hp : Hp) (k : PV → Hp → Option R) :
    run tys fns O (n + 100) e27 l27_0 ⟨[(0, .ptr 1 0), (3, .row 7 0 1 1 4), (4, .v (.int .i64 (.ofNat (m + 1))))], ⟨[(7, ⟨[(sb []), (i 0), nl, (i 0)], 4, true, 0⟩), (6, ⟨[(sb []), (i 0), nl, (i 0)], 4, false, 0⟩), (5, ⟨[nl, (i 0)], 2, false, 0⟩), (4, ⟨[nl, (i 0)], 2, false, 0⟩), (3, ⟨[(sb []), (i 0), nl, (i 0)], 4, false, 0⟩), (2, ⟨[bt true, nl, nl, sb [], bt false, nl], 6, false, 0⟩), (1, rd [1, d0, d1, d2, d3] 5 26), (0, ⟨[bt false, nl, nl, sb [], bt false, nl], 6, false, 0⟩)], 8, []⟩⟩ (blockK 0 (seqK (fun st' => evC tys e27 (.seq r27_10 .ret) (callF tys fns O (run tys fns O (n + 100))) (run tys fns O (n + 100)) st' (endK tys e27.fn (fun y1 g1 =>
  bP (primFieldAddr tys g1 32 1 (some (.ptr 2 0))) fun y2 g2 =>
  bP (primStore tys g2 24 (some y2) (some y1)) fun y3 g3 =>
  (seqK (fun st' => evC tys e9 (.seq (.seq r9_7 (.block 0 l9_0)) (.seq r9_15 (.seq r9_16 (.seq (.seq r9_17 (.cond (.tmp 68) (.seq r9_18 .ret) .skip)) (.seq r9_19 .ret))))) (callF tys fns O (run tys fns O (n + 101))) (run tys fns O (n + 101)) st' (endK tys e9.fn (dataK k hp))) (endK tys e9.fn (dataK k hp))) .normal ⟨[(2, .ptr 0 0), (6, .ptr 1 0), (7, .ptr 2 0)], g3⟩))) (endK tys e27.fn (fun y1 g1 =>
  bP (primFieldAddr tys g1 32 1 (some (.ptr 2 0))) fun y2 g2 =>
  bP (primStore tys g2 24 (some y2) (some y1)) fun y3 g3 =>
  (seqK (fun st' => evC tys e9 (.seq (.seq r9_7 (.block 0 l9_0)) (.seq r9_15 (.seq r9_16 (.seq (.seq r9_17 (.cond (.tmp 68) (.seq r9_18 .ret) .skip)) (.seq r9_19 .ret))))) (callF tys fns O (run tys fns O (n + 101))) (run tys fns O (n + 101)) st' (endK tys e9.fn (dataK k hp))) (endK tys e9.fn (dataK k hp))) .normal ⟨[(2, .ptr 0 0), (6, .ptr 1 0), (7, .ptr 2 0)], g3⟩)))) = k (.tup [rp0, i 26]) hp := by kernel_rfl
theorem fin9b_5 (O : Orc) (n : Nat) (m : Nat) (d0 d1 d2 d3 d4 : UInt8) (hp : Hp) (k : PV → Hp → Option R) :
    run tys fns O (n + 100) e27 l27_0 ⟨[(0, .ptr 1 0), (3, .row 7 0 1 1 4), (4, .v (.int .i64 (.ofNat (m + 1))))], ⟨[(7, ⟨[(sb []), (i 0), nl, (i 0)], 4, true, 0⟩), (6, ⟨[(sb []), (i 0), nl, (i 0)], 4, false, 0⟩), (5, ⟨[nl, (i 0)], 2, false, 0⟩), (4, ⟨[nl, (i 0)], 2, false, 0⟩), (3, ⟨[(sb []), (i 0), nl, (i 0)], 4, false, 0⟩), (2, ⟨[bt true, nl, nl, sb [], bt false, nl], 6, false, 0⟩), (1, rd [1, d0, d1, d2, d3, d4] 6 26), (0, ⟨[bt false, nl, nl, sb [], bt false, nl], 6, false, 0⟩)], 8, []⟩⟩ (blockK 0 (seqK (fun st' => evC tys e27 (.seq r27_10 .ret) (callF tys fns O (run tys fns O (n + 100))) (run tys fns O (n + 100)) st' (endK tys e27.fn (fun y1 g1 =>
  bP (primFieldAddr tys g1 32 1 (some (.ptr 2 0))) fun y2 g2 =>
  bP (primStore tys g2 24 (some y2) (some y1)) fun y3 g3 =>
  (seqK (fun st' => evC tys e9 (.seq (.seq r9_7 (.block 0 l9_0)) (.seq r9_15 (.seq r9_16 (.seq (.seq r9_17 (.cond (.tmp 68) (.seq r9_18 .ret) .skip)) (.seq r9_19 .ret))))) (callF tys fns O (run tys fns O (n + 101))) (run tys fns O (n + 101)) st' (endK tys e9.fn (dataK k hp))) (endK tys e9.fn (dataK k hp))) .normal ⟨[(2, .ptr 0 0), (6, .ptr 1 0), (7, .ptr 2 0)], g3⟩))) (endK tys e27.fn (fun y1 g1 =>
  bP (primFieldAddr tys g1 32 1 (some (.ptr 2 0))) fun y2 g2 =>
  bP (primStore tys g2 24 (some y2) (some y1)) fun y3 g3 =>
  (seqK (fun st' => evC tys e9 (.seq (.seq r9_7 (.block 0 l9_0)) (.seq r9_15 (.seq r9_16 (.seq (.seq r9_17 (.cond (.tmp 68) (.seq r9_18 .ret) .skip)) (.seq r9_19 .ret))))) (callF tys fns O (run tys fns O (n + 101))) (run tys fns O (n + 101)) st' (endK tys e9.fn (dataK k hp))) (endK tys e9.fn (dataK k hp))) .normal ⟨[(2, .ptr 0 0), (6, .ptr 1 0), (7, .ptr 2 0)], g3⟩)))) = k (.tup [rp0, i 26]) hp := by kernel_rfl
theorem fin9b_6 (O : Orc) (n : Nat) (m : Nat) (d0 d1 d2 d3 d4 d5 : UInt8) (hp : Hp) (k : PV → Hp → Option R) :
    run tys fns O (n + 100) e27 l27_0 ⟨[(0, .ptr 1 0), (3, .row 7 0 1 1 4), (4, .v (.int .i64 (.ofNat (m + 1))))], ⟨[(7, ⟨[(sb []), (i 0), nl, (i 0)], 4, true, 0⟩), (6, ⟨[(sb []), (i 0), nl, (i 0)], 4, false, 0⟩), (5, ⟨[nl, (i 0)], 2, false, 0⟩), (4, ⟨[nl, (i 0)], 2, false, 0⟩), (3, ⟨[(sb []), (i 0), nl, (i 0)], 4, false, 0⟩), (2, ⟨[bt true, nl, nl, sb [], bt false, nl], 6, false, 0⟩), (1, rd [1, d0, d1, d2, d3, d4, d5] 7 26), (0, ⟨[bt false, nl, nl, sb [], bt false, nl], 6, false, 0⟩)], 8, []⟩⟩ (blockK 0 (seqK (fun st' => evC tys e27 (.seq r27_10 .ret) (callF tys fns O (run tys fns O (n + 100))) (run tys fns O (n + 100)) st' (endK tys e27.fn (fun y1 g1 =>
  bP (primFieldAddr tys g1 32 1 (some (.ptr 2 0))) fun y2 g2 =>
  bP (primStore tys g2 24 (some y2) (some y1)) fun y3 g3 =>
  (seqK (fun st' => evC tys e9 (.seq (.seq r9_7 (.block 0 l9_0)) (.seq r9_15 (.seq r9_16 (.seq (.seq r9_17 (.cond (.tmp 68) (.seq r9_18 .ret) .skip)) (.seq r9_19 .ret))))) (callF tys fns O (run tys fns O (n + 101))) (run tys fns O (n + 101)) st' (endK tys e9.fn (dataK k hp))) (endK tys e9.fn (dataK k hp))) .normal ⟨[(2, .ptr 0 0), (6, .ptr 1 0), (7, .ptr 2 0)], g3⟩))) (endK tys e27.fn (fun y1 g1 =>
  bP (primFieldAddr tys g1 32 1 (some (.ptr 2 0))) fun y2 g2 =>
  bP (primStore tys g2 24 (some y2) (some y1)) fun y3 g3 =>
  (seqK (fun st' => evC tys e9 (.seq (.seq r9_7 (.block 0 l9_0)) (.seq r9_15 (.seq r9_16 (.seq (.seq r9_17 (.cond (.tmp 68) (.seq r9_18 .ret) .skip)) (.seq r9_19 .ret))))) (callF tys fns O (run tys fns O (n + 101))) (run tys fns O (n + 101)) st' (endK tys e9.fn (dataK k hp))) (endK tys e9.fn (dataK k hp))) .normal ⟨[(2, .ptr 0 0), (6, .ptr 1 0), (7, .ptr 2 0)], g3⟩)))) = k (.tup [rp0, i 26]) hp := by kernel_rfl
theorem fin9b_7 (O : Orc) (n : Nat) (m : Nat) (d0 d1 d2 d3 d4 d5 d6 : UInt8) (hp : Hp) (k : PV → Hp → Option R) :
    run tys fns O (n + 100) e27 l27_0 ⟨[(0, .ptr 1 0), (3, .row 7 0 1 1 4), (4, .v (.int .i64 (.ofNat (m + 1))))], ⟨[(7, ⟨[(sb []), (i 0), nl, (i 0)], 4, true, 0⟩), (6, ⟨[(sb []), (i 0), nl, (i 0)], 4, false, 0⟩), (5, ⟨[nl, (i 0)], 2, false, 0⟩), (4, ⟨[nl, (i 0)], 2, false, 0⟩), (3, ⟨[(sb []), (i 0), nl, (i 0)], 4, false, 0⟩), (2, ⟨[bt true, nl, nl, sb [], bt false, nl], 6, false, 0⟩), (1, rd [1, d0, d1, d2, d3, d4, d5, d6] 8 26), (0, ⟨[bt false, nl, nl, sb [], bt false, nl], 6, false, 0⟩)], 8, []⟩⟩ (blockK 0 (seqK (fun st' => evC tys e27 (.seq r27_10 .ret) (callF tys fns O (run tys fns O (n + 100))) (run tys fns O (n + 100)) st' (endK tys e27.fn (fun y1 g1 =>
  bP (primFieldAddr tys g1 32 1 (some (.ptr 2 0))) fun y2 g2 =>
  bP (primStore tys g2 24 (some y2) (some y1)) fun y3 g3 =>
  (seqK (fun st' => evC tys e9 (.seq (.seq r9_7 (.block 0 l9_0)) (.seq r9_15 (.seq r9_16 (.seq (.seq r9_17 (.cond (.tmp 68) (.seq r9_18 .ret) .skip)) (.seq r9_19 .ret))))) (callF tys fns O (run tys fns O (n + 101))) (run tys fns O (n + 101)) st' (endK tys e9.fn (dataK k hp))) (endK tys e9.fn (dataK k hp))) .normal ⟨[(2, .ptr 0 0), (6, .ptr 1 0), (7, .ptr 2 0)], g3⟩))) (endK tys e27.fn (fun y1 g1 =>
  bP (primFieldAddr tys g1 32 1 (some (.ptr 2 0))) fun y2 g2 =>
  bP (primStore tys g2 24 (some y2) (some y1)) fun y3 g3 =>
  (seqK (fun st' => evC tys e9 (.seq (.seq r9_7 (.block 0 l9_0)) (.seq r9_15 (.seq r9_16 (.seq (.seq r9_17 (.cond (.tmp 68) (.seq r9_18 .ret) .skip)) (.seq r9_19 .ret))))) (callF tys fns O (run tys fns O (n + 101))) (run tys fns O (n + 101)) st' (endK tys e9.fn (dataK k hp))) (endK tys e9.fn (dataK k hp))) .normal ⟨[(2, .ptr 0 0), (6, .ptr 1 0), (7, .ptr 2 0)], g3⟩)))) = k (.tup [rp0, i 26]) hp := by kernel_rfl
theorem fin9b_8 (O : Orc) (n : Nat) (m : Nat) (d0 d1 d2 d3 d4 d5 d6 d7 : UInt8) (hp : Hp) (k : PV → Hp → Option R) :
    run tys fns O (n + 100) e27 l27_0 ⟨[(0, .ptr 1 0), (3, .row 7 0 1 1 4), (4, .v (.int .i64 (.ofNat (m + 1))))], ⟨[(7, ⟨[(sb []), (i 0), nl, (i 0)], 4, true, 0⟩), (6, ⟨[(sb []), (i 0), nl, (i 0)], 4, false, 0⟩), (5, ⟨[nl, (i 0)], 2, false, 0⟩), (4, ⟨[nl, (i 0)], 2, false, 0⟩), (3, ⟨[(sb []), (i 0), nl, (i 0)], 4, false, 0⟩), (2, ⟨[bt true, nl, nl, sb [], bt false, nl], 6, false, 0⟩), (1, rd [1, d0, d1, d2, d3, d4, d5, d6, d7] 9 26), (0, ⟨[bt false, nl, nl, sb [], bt false, nl], 6, false, 0⟩)], 8, []⟩⟩ (blockK 0 (seqK (fun st' => evC tys e27 (.seq r27_10 .ret) (callF tys fns O (run tys fns O (n + 100))) (run tys fns O (n + 100)) st' (endK tys e27.fn (fun y1 g1 =>
  bP (primFieldAddr tys g1 32 1 (some (.ptr 2 0))) fun y2 g2 =>
  bP (primStore tys g2 24 (some y2) (some y1)) fun y3 g3 =>
  (seqK (fun st' => evC tys e9 (.seq (.seq r9_7 (.block 0 l9_0)) (.seq r9_15 (.seq r9_16 (.seq (.seq r9_17 (.cond (.tmp 68) (.seq r9_18 .ret) .skip)) (.seq r9_19 .ret))))) (callF tys fns O (run tys fns O (n + 101))) (run tys fns O (n + 101)) st' (endK tys e9.fn (dataK k hp))) (endK tys e9.fn (dataK k hp))) .normal ⟨[(2, .ptr 0 0), (6, .ptr 1 0), (7, .ptr 2 0)], g3⟩))) (endK tys e27.fn (fun y1 g1 =>
  bP (primFieldAddr tys g1 32 1 (some (.ptr 2 0))) fun y2 g2 =>
  bP (primStore tys g2 24 (some y2) (some y1)) fun y3 g3 =>
  (seqK (fun st' => evC tys e9 (.seq (.seq r9_7 (.block 0 l9_0)) (.seq r9_15 (.seq r9_16 (.seq (.seq r9_17 (.cond (.tmp 68) (.seq r9_18 .ret) .skip)) (.seq r9_19 .ret))))) (callF tys fns O (run tys fns O (n + 101))) (run tys fns O (n + 101)) st' (endK tys e9.fn (dataK k hp))) (endK tys e9.fn (dataK k hp))) .normal ⟨[(2, .ptr 0 0), (6, .ptr 1 0), (7, .ptr 2 0)], g3⟩)))) = k (.tup [rp0, i 26]) hp := by kernel_rfl
theorem fin9b_9 (O : Orc) (n : Nat) (m : Nat) (d0 d1 d2 d3 d4 d5 d6 d7 d8 : UInt8) (hp : Hp) (k : PV → Hp → Option R) :
    run tys fns O (n + 100) e27 l27_0 ⟨[(0, .ptr 1 0), (3, .row 7 0 1 1 4), (4, .v (.int .i64 (.ofNat (m + 1))))], ⟨[(7, ⟨[(sb []), (i 0), nl, (i 0)], 4, true, 0⟩), (6, ⟨[(sb []), (i 0), nl, (i 0)], 4, false, 0⟩), (5, ⟨[nl, (i 0)], 2, false, 0⟩), (4, ⟨[nl, (i 0)], 2, false, 0⟩), (3, ⟨[(sb []), (i 0), nl, (i 0)], 4, false, 0⟩), (2, ⟨[bt true, nl, nl, sb [], bt false, nl], 6, false, 0⟩), (1, rd [1, d0, d1, d2, d3, d4, d5, d6, d7, d8] 10 26), (0, ⟨[bt false, nl, nl, sb [], bt false, nl], 6, false, 0⟩)], 8, []⟩⟩ (blockK 0 (seqK (fun st' => evC tys e27 (.seq r27_10 .ret) (callF tys fns O (run tys fns O (n + 100))) (run tys fns O (n + 100)) st' (endK tys e27.fn (fun y1 g1 =>
  bP (primFieldAddr tys g1 32 1 (some (.ptr 2 0))) fun y2 g2 =>
  bP (primStore tys g2 24 (some y2) (some y1)) fun y3 g3 =>
  (seqK (fun st' => evC tys e9 (.seq (.seq r9_7 (.block 0 l9_0)) (.seq r9_15 (.seq r9_16 (.seq (.seq r9_17 (.cond (.tmp 68) (.seq r9_18 .ret) .skip)) (.seq r9_19 .ret))))) (callF tys fns O (run tys fns O (n + 101))) (run tys fns O (n + 101)) st' (endK tys e9.fn (dataK k hp))) (endK tys e9.fn (dataK k hp))) .normal ⟨[(2, .ptr 0 0), (6, .ptr 1 0), (7, .ptr 2 0)], g3⟩))) (endK tys e27.fn (fun y1 g1 =>
  bP (primFieldAddr tys g1 32 1 (some (.ptr 2 0))) fun y2 g2 =>
  bP (primStore tys g2 24 (some y2) (some y1)) fun y3 g3 =>
  (seqK (fun st' => evC tys e9 (.seq (.seq r9_7 (.block 0 l9_0)) (.seq r9_15 (.seq r9_16 (.seq (.seq r9_17 (.cond (.tmp 68) (.seq r9_18 .ret) .skip)) (.seq r9_19 .ret))))) (callF tys fns O (run tys fns O (n + 101))) (run tys fns O (n + 101)) st' (endK tys e9.fn (dataK k hp))) (endK tys e9.fn (dataK k hp))) .normal ⟨[(2, .ptr 0 0), (6, .ptr 1 0), (7, .ptr 2 0)], g3⟩)))) = k (.tup [rp0, i 26]) hp := by kernel_rfl
theorem fin9b_10 (O : Orc) (n : Nat) (m : Nat) (d0 d1 d2 d3 d4 d5 d6 d7 d8 d9 : UInt8) (hp : Hp) (k : PV → Hp → Option R) :
    run tys fns O (n + 100) e27 l27_0 ⟨[(0, .ptr 1 0), (3, .row 7 0 1 1 4), (4, .v (.int .i64 (.ofNat (m + 1))))], ⟨[(7, ⟨[(sb []), (i 0), nl, (i 0)], 4, true, 0⟩), (6, ⟨[(sb []), (i 0), nl, (i 0)], 4, false, 0⟩), (5, ⟨[nl, (i 0)], 2, false, 0⟩), (4, ⟨[nl, (i 0)], 2, false, 0⟩), (3, ⟨[(sb []), (i 0), nl, (i 0)], 4, false, 0⟩), (2, ⟨[bt true, nl, nl, sb [], bt false, nl], 6, false, 0⟩), (1, rd [1, d0, d1, d2, d3, d4, d5, d6, d7, d8, d9] 11 26), (0, ⟨[bt false, nl, nl, sb [], bt false, nl], 6, false, 0⟩)], 8, []⟩⟩ (blockK 0 (seqK (fun st' => evC tys e27 (.seq r27_10 .ret) (callF tys fns O (run tys fns O (n + 100))) (run tys fns O (n + 100)) st' (endK tys e27.fn (fun y1 g1 =>
  bP (primFieldAddr tys g1 32 1 (some (.ptr 2 0))) fun y2 g2 =>
  bP (primStore tys g2 24 (some y2) (some y1)) fun y3 g3 =>
  (seqK (fun st' => evC tys e9 (.seq (.seq r9_7 (.block 0 l9_0)) (.seq r9_15 (.seq r9_16 (.seq (.seq r9_17 (.cond (.tmp 68) (.seq r9_18 .ret) .skip)) (.seq r9_19 .ret))))) (callF tys fns O (run tys fns O (n + 101))) (run tys fns O (n + 101)) st' (endK tys e9.fn (dataK k hp))) (endK tys e9.fn (dataK k hp))) .normal ⟨[(2, .ptr 0 0), (6, .ptr 1 0), (7, .ptr 2 0)], g3⟩))) (endK tys e27.fn (fun y1 g1 =>
  bP (primFieldAddr tys g1 32 1 (some (.ptr 2 0))) fun y2 g2 =>
  bP (primStore tys g2 24 (some y2) (some y1)) fun y3 g3 =>
  (seqK (fun st' => evC tys e9 (.seq (.seq r9_7 (.block 0 l9_0)) (.seq r9_15 (.seq r9_16 (.seq (.seq r9_17 (.cond (.tmp 68) (.seq r9_18 .ret) .skip)) (.seq r9_19 .ret))))) (callF tys fns O (run tys fns O (n + 101))) (run tys fns O (n + 101)) st' (endK tys e9.fn (dataK k hp))) (endK tys e9.fn (dataK k hp))) .normal ⟨[(2, .ptr 0 0), (6, .ptr 1 0), (7, .ptr 2 0)], g3⟩)))) = k (.tup [rp0, i 26]) hp := by kernel_rfl
theorem fin9b (O : Orc) (n : Nat) (m : Nat) (l : List UInt8) (h1 : 1 ≤ l.length) (h2 : l.length ≤ 10) (hp : Hp) (k : PV → Hp → Option R) :
    run tys fns O (n + 100) e27 l27_0 ⟨[(0, .ptr 1 0), (3, .row 7 0 1 1 4), (4, .v (.int .i64 (.ofNat (m + 1))))], ⟨[(7, ⟨[(sb []), (i 0), nl, (i 0)], 4, true, 0⟩), (6, ⟨[(sb []), (i 0), nl, (i 0)], 4, false, 0⟩), (5, ⟨[nl, (i 0)], 2, false, 0⟩), (4, ⟨[nl, (i 0)], 2, false, 0⟩), (3, ⟨[(sb []), (i 0), nl, (i 0)], 4, false, 0⟩), (2, ⟨[bt true, nl, nl, sb [], bt false, nl], 6, false, 0⟩), (1, rd (1 :: l) (1 :: l).length 26), (0, ⟨[bt false, nl, nl, sb [], bt false, nl], 6, false, 0⟩)], 8, []⟩⟩ (blockK 0 (seqK (fun st' => evC tys e27 (.seq r27_10 .ret) (callF tys fns O (run tys fns O (n + 100))) (run tys fns O (n + 100)) st' (endK tys e27.fn (fun y1 g1 =>
  bP (primFieldAddr tys g1 32 1 (some (.ptr 2 0))) fun y2 g2 =>
  bP (primStore tys g2 24 (some y2) (some y1)) fun y3 g3 =>
  (seqK (fun st' => evC tys e9 (.seq (.seq r9_7 (.block 0 l9_0)) (.seq r9_15 (.seq r9_16 (.seq (.seq r9_17 (.cond (.tmp 68) (.seq r9_18 .ret) .skip)) (.seq r9_19 .ret))))) (callF tys fns O (run tys fns O (n + 101))) (run tys fns O (n + 101)) st' (endK tys e9.fn (dataK k hp))) (endK tys e9.fn (dataK k hp))) .normal ⟨[(2, .ptr 0 0), (6, .ptr 1 0), (7, .ptr 2 0)], g3⟩))) (endK tys e27.fn (fun y1 g1 =>
  bP (primFieldAddr tys g1 32 1 (some (.ptr 2 0))) fun y2 g2 =>
  bP (primStore tys g2 24 (some y2) (some y1)) fun y3 g3 =>
  (seqK (fun st' => evC tys e9 (.seq (.seq r9_7 (.block 0 l9_0)) (.seq r9_15 (.seq r9_16 (.seq (.seq r9_17 (.cond (.tmp 68) (.seq r9_18 .ret) .skip)) (.seq r9_19 .ret))))) (callF tys fns O (run tys fns O (n + 101))) (run tys fns O (n + 101)) st' (endK tys e9.fn (dataK k hp))) (endK tys e9.fn (dataK k hp))) .normal ⟨[(2, .ptr 0 0), (6, .ptr 1 0), (7, .ptr 2 0)], g3⟩)))) = k (.tup [rp0, i 26]) hp := by
  match l, h1, h2 with
  | [d0], _, _ => exact fin9b_1 O n m d0 hp k
  | [d0, d1], _, _ => exact fin9b_2 O n m d0 d1 hp k
  | [d0, d1, d2], _, _ => exact fin9b_3 O n m d0 d1 d2 hp k
  | [d0, d1, d2, d3], _, _ => exact fin9b_4 O n m d0 d1 d2 d3 hp k
  | [d0, d1, d2, d3, d4], _, _ => exact fin9b_5 O n m d0 d1 d2 d3 d4 hp k
  | [d0, d1, d2, d3, d4, d5], _, _ => exact fin9b_6 O n m d0 d1 d2 d3 d4 d5 hp k
  | [d0, d1, d2, d3, d4, d5, d6], _, _ => exact fin9b_7 O n m d0 d1 d2 d3 d4 d5 d6 hp k
  | [d0, d1, d2, d3, d4, d5, d6, d7], _, _ => exact fin9b_8 O n m d0 d1 d2 d3 d4 d5 d6 d7 hp k
  | [d0, d1, d2, d3, d4, d5, d6, d7, d8], _, _ => exact fin9b_9 O n m d0 d1 d2 d3 d4 d5 d6 d7 d8 hp k
  | [d0, d1, d2, d3, d4, d5, d6, d7, d8, d9], _, _ => exact fin9b_10 O n m d0 d1 d2 d3 d4 d5 d6 d7 d8 d9 hp k
  | _ :: _ :: _ :: _ :: _ :: _ :: _ :: _ :: _ :: _ :: _ :: _, _, h => exact absurd h (by simp)
theorem rest9p (O : Orc) (n m : Nat) (hm : m + 1 ≤ 9223372036854775807) (l : List UInt8) (h1 : 1 ≤ l.length) (h2 : l.length ≤ 10) (hp : Hp) (k : PV → Hp → Option R) :
    evC tys e27 (.seq (.block 0 l27_0) (.seq r27_10 .ret)) (callF tys fns O (run tys fns O (n + 100))) (run tys fns O (n + 100)) ⟨[(0, .ptr 1 0), (3, nl), (4, .v (.int .i64 (.ofNat (m + 1))))], H9 (1 :: l) (1 :: l).length 0⟩ (endK tys e27.fn (fun y1 g1 =>
  bP (primFieldAddr tys g1 32 1 (some (.ptr 2 0))) fun y2 g2 =>
  bP (primStore tys g2 24 (some y2) (some y1)) fun y3 g3 =>
  (seqK (fun st' => evC tys e9 (.seq (.seq r9_7 (.block 0 l9_0)) (.seq r9_15 (.seq r9_16 (.seq (.seq r9_17 (.cond (.tmp 68) (.seq r9_18 .ret) .skip)) (.seq r9_19 .ret))))) (callF tys fns O (run tys fns O (n + 101))) (run tys fns O (n + 101)) st' (endK tys e9.fn (dataK k hp))) (endK tys e9.fn (dataK k hp))) .normal ⟨[(2, .ptr 0 0), (6, .ptr 1 0), (7, .ptr 2 0)], g3⟩)) = k (.tup [rp0, i 26]) hp := by
  have hw : wrapq .i64 (Int.ofNat (m + 1) - Int.ofNat 1) = Int.ofNat m := by
    have e : Int.ofNat (m + 1) - Int.ofNat 1 = Int.ofNat m := by simp only [Int.ofNat_eq_natCast]; omega
    rw [e, wrapq64 (by omega)]
  have ht := fun rc k => turn9 (R := R) O n m l h1 h2 rc k
  simp only [hw] at ht
  rw [ev_seq, ev_block, ht]
  cases m with
  | zero => exact fin9a O n l h1 h2 hp k
  | succ m => exact fin9b O n m l h1 h2 hp k
end
end Go.Ev
