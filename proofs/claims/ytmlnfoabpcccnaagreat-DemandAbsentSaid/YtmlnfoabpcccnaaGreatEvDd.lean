/- What the regions come to. -/
import Derived.Test.YtmlnfoabpcccnaaGreatEvBj
import Derived.Test.YtmlnfoabpcccnaaGreatEvBg
import Derived.Test.YtmlnfoabpcccnaaGreatEvDc
set_option linter.all false
/- What the regions come to. -/
namespace Go.Ev
open Go.Proofs
section
variable {R : Type}
/-! function 6 -/
noncomputable def c6 : Code := codeOf Tryz.f6
noncomputable def r6_0 : Code := regAt 0 c6
noncomputable def r6_1 : Code := regAt 1 c6
theorem c6_eq : c6 = (.seq r6_0 (.seq r6_1 .ret)) := by kernel_rfl
theorem b6 (rc : RC R) (x0 : PV) (hp : Hp) (k : PV → Hp → Option R) : bodyF tys e6 rc [x0] hp k = rc e6 c6 ⟨[(0, x0)], hp⟩ (endK tys e6.fn k) := by kernel_rfl
theorem z6a (x2 : PV) (hp : Hp) : resOf tys e6.fn ⟨[(2, x2)], hp⟩ = oneR (consO (some x2) (some [])) := by kernel_rfl
theorem r6_0a (call : CallK R) (rc : RC R) (x0 : PV) (hp : Hp) (k : Ex → St → Option R) : evC tys e6 r6_0 call rc ⟨[(0, x0)], hp⟩ k =
  bP (primBox tys hp 30 (some x0)) fun y0 g0 =>
  k .normal ⟨[(1, y0)], g0⟩ := by kernel_rfl
theorem r6_1a (call : CallK R) (rc : RC R) (x1 : PV) (hp : Hp) (k : Ex → St → Option R) : evC tys e6 r6_1 call rc ⟨[(1, x1)], hp⟩ k =
  bP (primLoad tys hp 30 (some x1)) fun y0 g0 =>
  call 17 [y0, nl, nl] g0 fun y1 g1 =>
  call 16 [y1] g1 fun y2 g2 =>
  k .normal ⟨[(2, y2)], g2⟩ := by kernel_rfl
/-! function 16 -/
noncomputable def c16 : Code := codeOf Tryz.f16
noncomputable def r16_0 : Code := regAt 0 c16
noncomputable def r16_1 : Code := regAt 1 c16
theorem c16_eq : c16 = (.seq r16_0 (.seq r16_1 .ret)) := by kernel_rfl
theorem b16 (rc : RC R) (x0 : PV) (hp : Hp) (k : PV → Hp → Option R) : bodyF tys e16 rc [x0] hp k = rc e16 c16 ⟨[(0, x0)], hp⟩ (endK tys e16.fn k) := by kernel_rfl
theorem z16a (x2 : PV) (hp : Hp) : resOf tys e16.fn ⟨[(2, x2)], hp⟩ = oneR (consO (some x2) (some [])) := by kernel_rfl
theorem r16_0a (call : CallK R) (rc : RC R) (x0 : PV) (hp : Hp) (k : Ex → St → Option R) : evC tys e16 r16_0 call rc ⟨[(0, x0)], hp⟩ k =
  k .normal ⟨[(0, x0)], hp⟩ := by kernel_rfl
theorem r16_1a (call : CallK R) (rc : RC R) (x0 : PV) (hp : Hp) (k : Ex → St → Option R) : evC tys e16 r16_1 call rc ⟨[(0, x0)], hp⟩ k =
  call 35 [x0] hp fun y1 g1 =>
  k .normal ⟨[(2, y1)], g1⟩ := by kernel_rfl
/-! function 17 -/
noncomputable def c17 : Code := codeOf Tryz.f17
noncomputable def r17_0 : Code := regAt 0 c17
noncomputable def r17_1 : Code := regAt 1 c17
noncomputable def r17_2 : Code := regAt 2 c17
noncomputable def r17_3 : Code := regAt 3 c17
noncomputable def r17_4 : Code := regAt 4 c17
noncomputable def r17_5 : Code := regAt 5 c17
noncomputable def r17_6 : Code := regAt 6 c17
noncomputable def r17_7 : Code := regAt 7 c17
noncomputable def r17_8 : Code := regAt 8 c17
noncomputable def r17_9 : Code := regAt 9 c17
noncomputable def r17_10 : Code := regAt 10 c17
noncomputable def r17_11 : Code := regAt 11 c17
noncomputable def r17_12 : Code := regAt 12 c17
noncomputable def r17_13 : Code := regAt 13 c17
noncomputable def l17_0 : Code := .loop (.seq r17_4 (.seq (.cond (.tmp 30) .skip (.exit 0)) (.seq (.block 1 (.seq r17_5 r17_6)) r17_7)))
theorem l17_0_eq : l17_0 = .loop (.seq r17_4 (.seq (.cond (.tmp 30) .skip (.exit 0)) (.seq (.block 1 (.seq r17_5 r17_6)) r17_7))) := _root_.id rfl
noncomputable def l17_1 : Code := .loop (.seq r17_9 (.seq (.cond (.tmp 42) .skip (.exit 2)) (.seq (.block 3 (.seq r17_10 r17_11)) r17_12)))
theorem l17_1_eq : l17_1 = .loop (.seq r17_9 (.seq (.cond (.tmp 42) .skip (.exit 2)) (.seq (.block 3 (.seq r17_10 r17_11)) r17_12))) := _root_.id rfl
theorem c17_eq : c17 = (.seq r17_0 (.seq (.seq r17_1 (.cond (.tmp 20) r17_2 .skip)) (.seq (.seq r17_3 (.block 0 l17_0)) (.seq (.seq r17_8 (.block 2 l17_1)) (.seq r17_13 .ret))))) := by kernel_rfl
theorem b17 (rc : RC R) (x0 x1 x2 : PV) (hp : Hp) (k : PV → Hp → Option R) : bodyF tys e17 rc [x0, x1, x2] hp k = rc e17 c17 ⟨[(0, x0), (1, x1), (2, x2)], hp⟩ (endK tys e17.fn k) := by kernel_rfl
theorem z17a (x6 : PV) (hp : Hp) : resOf tys e17.fn ⟨[(6, x6)], hp⟩ = oneR (consO (some x6) (some [])) := by kernel_rfl
theorem r17_0a (call : CallK R) (rc : RC R) (x0 x1 x2 : PV) (hp : Hp) (k : Ex → St → Option R) : evC tys e17 r17_0 call rc ⟨[(0, x0), (1, x1), (2, x2)], hp⟩ k =
  bP (primBox tys hp 30 (some x0)) fun y0 g0 =>
  k .normal ⟨[(1, x1), (2, x2), (3, y0)], g0⟩ := by kernel_rfl
theorem r17_1a (call : CallK R) (rc : RC R) (x1 x2 x3 : PV) (hp : Hp) (k : Ex → St → Option R) : evC tys e17 r17_1 call rc ⟨[(1, x1), (2, x2), (3, x3)], hp⟩ k =
  bP (primFieldAddr tys hp 30 0 (some x3)) fun y0 g0 =>
  bP (primLoad tys g0 3 (some y0)) fun y1 g1 =>
  bP (primBin tys g1 .eql 3 (some y1) (some (i 5))) fun y2 g2 =>
  bW (wantOf true (some y2)) g2 (fun K => K x1 g2) fun y4 g4 =>
  bW (wantOf true (some y2)) g4 (fun K => bP (primFieldAddr tys g4 30 3 (some x3)) K) fun y5 g5 =>
  bW (wantOf true (some y2)) g5 (fun K => bP (primLoad tys g5 9 (some y5)) K) fun y6 g6 =>
  bW (wantOf true (some y2)) g6 (fun K => call 5 [y4, y6] g6 K) fun y7 g7 =>
  bW (wantOf true (some y2)) g7 (fun K => bP (primUn g7 .not (some y7)) K) fun y8 g8 =>
  bP (primPick g8 (some y8) (some (.v (.bool false))) (some y2)) fun y9 g9 =>
  k .normal ⟨[(1, x1), (2, x2), (3, x3), (20, y9)], g9⟩ := by kernel_rfl
theorem r17_2a (call : CallK R) (rc : RC R) (x1 x2 x3 x20 : PV) (hp : Hp) (k : Ex → St → Option R) : evC tys e17 r17_2 call rc ⟨[(1, x1), (2, x2), (3, x3), (20, x20)], hp⟩ k =
  bP (primFieldAddr tys hp 30 3 (some x3)) fun y1 g1 =>
  bP (primLoad tys g1 9 (some y1)) fun y2 g2 =>
  bP (primBuildSlice tys g2 32 1 (some [(0, y2)])) fun y3 g3 =>
  bP (prim2 (app tys 32 g3) (some x2) (some y3)) fun y4 g4 =>
  k .normal ⟨[(1, x1), (2, y4), (3, x3)], g4⟩ := by kernel_rfl
theorem r17_3a (call : CallK R) (rc : RC R) (x1 x2 x3 : PV) (hp : Hp) (k : Ex → St → Option R) : evC tys e17 r17_3 call rc ⟨[(1, x1), (2, x2), (3, x3)], hp⟩ k =
  bP (primFieldAddr tys hp 30 4 (some x3)) fun y0 g0 =>
  bP (primLoad tys g0 23 (some y0)) fun y1 g1 =>
  bP (primLen tys g1 23 (some y1)) fun y2 g2 =>
  k .normal ⟨[(1, x1), (2, x2), (3, x3), (27, y1), (28, y2), (29, (i 0))], g2⟩ := by kernel_rfl
theorem r17_3b (call : CallK R) (rc : RC R) (x1 x2 x3 x20 : PV) (hp : Hp) (k : Ex → St → Option R) : evC tys e17 r17_3 call rc ⟨[(1, x1), (2, x2), (3, x3), (20, x20)], hp⟩ k =
  bP (primFieldAddr tys hp 30 4 (some x3)) fun y0 g0 =>
  bP (primLoad tys g0 23 (some y0)) fun y1 g1 =>
  bP (primLen tys g1 23 (some y1)) fun y2 g2 =>
  k .normal ⟨[(1, x1), (2, x2), (3, x3), (27, y1), (28, y2), (29, (i 0))], g2⟩ := by kernel_rfl
theorem r17_4a (call : CallK R) (rc : RC R) (x1 x2 x3 x27 x28 x29 : PV) (hp : Hp) (k : Ex → St → Option R) : evC tys e17 r17_4 call rc ⟨[(1, x1), (2, x2), (3, x3), (27, x27), (28, x28), (29, x29)], hp⟩ k =
  bP (primBin tys hp .lss 3 (some x29) (some x28)) fun y0 g0 =>
  k .normal ⟨[(1, x1), (2, x2), (3, x3), (27, x27), (28, x28), (29, x29), (30, y0)], g0⟩ := by kernel_rfl
theorem r17_5a (call : CallK R) (rc : RC R) (x1 x2 x3 x27 x28 x29 x30 : PV) (hp : Hp) (k : Ex → St → Option R) : evC tys e17 r17_5 call rc ⟨[(1, x1), (2, x2), (3, x3), (27, x27), (28, x28), (29, x29), (30, x30)], hp⟩ k =
  bP (primIndexAddr tys hp 23 (some x27) (some x29)) fun y0 g0 =>
  bP (primLoad tys g0 30 (some y0)) fun y1 g1 =>
  bP (primAlloc tys g1 30) fun y2 g2 =>
  bP (primStore tys g2 30 (some y2) (some y1)) fun y3 g3 =>
  k .normal ⟨[(1, x1), (2, x2), (3, x3), (8, y2), (27, x27), (28, x28), (29, x29)], g3⟩ := by kernel_rfl
theorem r17_6a (call : CallK R) (rc : RC R) (x1 x2 x3 x8 x27 x28 x29 : PV) (hp : Hp) (k : Ex → St → Option R) : evC tys e17 r17_6 call rc ⟨[(1, x1), (2, x2), (3, x3), (8, x8), (27, x27), (28, x28), (29, x29)], hp⟩ k =
  bP (primLoad tys hp 30 (some x8)) fun y0 g0 =>
  call 17 [y0, x1, x2] g0 fun y3 g3 =>
  k .normal ⟨[(1, x1), (2, y3), (3, x3), (27, x27), (28, x28), (29, x29)], g3⟩ := by kernel_rfl
theorem r17_7a (call : CallK R) (rc : RC R) (x1 x2 x3 x27 x28 x29 : PV) (hp : Hp) (k : Ex → St → Option R) : evC tys e17 r17_7 call rc ⟨[(1, x1), (2, x2), (3, x3), (27, x27), (28, x28), (29, x29)], hp⟩ k =
  bP (primBin tys hp .add 3 (some x29) (some (i 1))) fun y0 g0 =>
  k .normal ⟨[(1, x1), (2, x2), (3, x3), (27, x27), (28, x28), (29, y0)], g0⟩ := by kernel_rfl
theorem r17_8a (call : CallK R) (rc : RC R) (x1 x2 x3 x27 x28 x29 x30 : PV) (hp : Hp) (k : Ex → St → Option R) : evC tys e17 r17_8 call rc ⟨[(1, x1), (2, x2), (3, x3), (27, x27), (28, x28), (29, x29), (30, x30)], hp⟩ k =
  bP (primFieldAddr tys hp 30 6 (some x3)) fun y0 g0 =>
  bP (primLoad tys g0 25 (some y0)) fun y1 g1 =>
  bP (primLen tys g1 25 (some y1)) fun y2 g2 =>
  k .normal ⟨[(1, x1), (2, x2), (39, y1), (40, y2), (41, (i 0))], g2⟩ := by kernel_rfl
theorem r17_9a (call : CallK R) (rc : RC R) (x1 x2 x39 x40 x41 : PV) (hp : Hp) (k : Ex → St → Option R) : evC tys e17 r17_9 call rc ⟨[(1, x1), (2, x2), (39, x39), (40, x40), (41, x41)], hp⟩ k =
  bP (primBin tys hp .lss 3 (some x41) (some x40)) fun y0 g0 =>
  k .normal ⟨[(1, x1), (2, x2), (39, x39), (40, x40), (41, x41), (42, y0)], g0⟩ := by kernel_rfl
theorem r17_10a (call : CallK R) (rc : RC R) (x1 x2 x39 x40 x41 x42 : PV) (hp : Hp) (k : Ex → St → Option R) : evC tys e17 r17_10 call rc ⟨[(1, x1), (2, x2), (39, x39), (40, x40), (41, x41), (42, x42)], hp⟩ k =
  bP (primIndexAddr tys hp 25 (some x39) (some x41)) fun y0 g0 =>
  bP (primLoad tys g0 86 (some y0)) fun y1 g1 =>
  bP (primAlloc tys g1 86) fun y2 g2 =>
  bP (primStore tys g2 86 (some y2) (some y1)) fun y3 g3 =>
  k .normal ⟨[(1, x1), (2, x2), (10, y2), (39, x39), (40, x40), (41, x41)], g3⟩ := by kernel_rfl
theorem r17_11a (call : CallK R) (rc : RC R) (x1 x2 x10 x39 x40 x41 : PV) (hp : Hp) (k : Ex → St → Option R) : evC tys e17 r17_11 call rc ⟨[(1, x1), (2, x2), (10, x10), (39, x39), (40, x40), (41, x41)], hp⟩ k =
  bP (primFieldAddr tys hp 86 2 (some x10)) fun y0 g0 =>
  bP (primLoad tys g0 30 (some y0)) fun y1 g1 =>
  bLg (logLoad tys 1 1 ⟨[], [], []⟩ g0.next y1 (some (30, y0))) fun l1 =>
  bP (prim2 (app tys 32 g1) (some nl) (some x1)) fun y3 g3 =>
  bLg (logEff tys 3 4 l1 g1 g3) fun l3 =>
  bP (primLoad tys g3 86 (some x10)) fun y4 g4 =>
  bLg (logLoad tys 4 0 l3 g3.next y4 (some (86, x10))) fun l4 =>
  call 37 [y4] g4 fun y5 g5 =>
  bLg (logEff tys 5 28 l4 g4 g5) fun l5 =>
  call 36 [y5] g5 fun y6 g6 =>
  bLg (logEff tys 6 60 l5 g5 g6) fun l6 =>
  bP (prim2 (app tys 32 g6) (some y3) (some y6)) fun y7 g7 =>
  bLg (logEff tys 7 124 l6 g6 g7) fun l7 =>
  call 17 [y1, y7, x2] g7 fun y9 g9 =>
  bLg (logEff tys 9 511 l7 g7 g9) fun l9 =>
  k .normal ⟨[(1, x1), (2, y9), (39, x39), (40, x40), (41, x41)], g9⟩ := by kernel_rfl
theorem r17_12a (call : CallK R) (rc : RC R) (x1 x2 x39 x40 x41 : PV) (hp : Hp) (k : Ex → St → Option R) : evC tys e17 r17_12 call rc ⟨[(1, x1), (2, x2), (39, x39), (40, x40), (41, x41)], hp⟩ k =
  bP (primBin tys hp .add 3 (some x41) (some (i 1))) fun y0 g0 =>
  k .normal ⟨[(1, x1), (2, x2), (39, x39), (40, x40), (41, y0)], g0⟩ := by kernel_rfl
theorem r17_13a (call : CallK R) (rc : RC R) (x1 x2 x39 x40 x41 x42 : PV) (hp : Hp) (k : Ex → St → Option R) : evC tys e17 r17_13 call rc ⟨[(1, x1), (2, x2), (39, x39), (40, x40), (41, x41), (42, x42)], hp⟩ k =
  k .normal ⟨[(6, x2)], hp⟩ := by kernel_rfl
/-! function 5 -/
noncomputable def c5 : Code := codeOf Tryz.f5
noncomputable def r5_0 : Code := regAt 0 c5
noncomputable def r5_1 : Code := regAt 1 c5
noncomputable def r5_2 : Code := regAt 2 c5
noncomputable def r5_3 : Code := regAt 3 c5
noncomputable def r5_4 : Code := regAt 4 c5
noncomputable def r5_5 : Code := regAt 5 c5
noncomputable def r5_6 : Code := regAt 6 c5
noncomputable def r5_7 : Code := regAt 7 c5
noncomputable def l5_0 : Code := .loop (.seq r5_2 (.seq (.cond (.tmp 10) .skip (.exit 0)) (.seq (.block 1 (.seq r5_3 (.seq r5_4 (.cond (.tmp 15) (.seq r5_5 .ret) .skip)))) r5_6)))
theorem l5_0_eq : l5_0 = .loop (.seq r5_2 (.seq (.cond (.tmp 10) .skip (.exit 0)) (.seq (.block 1 (.seq r5_3 (.seq r5_4 (.cond (.tmp 15) (.seq r5_5 .ret) .skip)))) r5_6))) := _root_.id rfl
theorem c5_eq : c5 = (.seq r5_0 (.seq (.seq r5_1 (.block 0 l5_0)) (.seq r5_7 .ret))) := by kernel_rfl
theorem b5 (rc : RC R) (x0 x1 : PV) (hp : Hp) (k : PV → Hp → Option R) : bodyF tys e5 rc [x0, x1] hp k = rc e5 c5 ⟨[(0, x0), (1, x1)], hp⟩ (endK tys e5.fn k) := by kernel_rfl
theorem z5a (x4 : PV) (hp : Hp) : resOf tys e5.fn ⟨[(4, x4)], hp⟩ = oneR (consO (some x4) (some [])) := by kernel_rfl
theorem r5_0a (call : CallK R) (rc : RC R) (x0 x1 : PV) (hp : Hp) (k : Ex → St → Option R) : evC tys e5 r5_0 call rc ⟨[(0, x0), (1, x1)], hp⟩ k =
  k .normal ⟨[(0, x0), (1, x1)], hp⟩ := by kernel_rfl
theorem r5_1a (call : CallK R) (rc : RC R) (x0 x1 : PV) (hp : Hp) (k : Ex → St → Option R) : evC tys e5 r5_1 call rc ⟨[(0, x0), (1, x1)], hp⟩ k =
  bP (primLen tys hp 32 (some x0)) fun y1 g1 =>
  k .normal ⟨[(1, x1), (7, x0), (8, y1), (9, (i 0))], g1⟩ := by kernel_rfl
theorem r5_2a (call : CallK R) (rc : RC R) (x1 x7 x8 x9 : PV) (hp : Hp) (k : Ex → St → Option R) : evC tys e5 r5_2 call rc ⟨[(1, x1), (7, x7), (8, x8), (9, x9)], hp⟩ k =
  bP (primBin tys hp .lss 3 (some x9) (some x8)) fun y0 g0 =>
  k .normal ⟨[(1, x1), (7, x7), (8, x8), (9, x9), (10, y0)], g0⟩ := by kernel_rfl
theorem r5_3a (call : CallK R) (rc : RC R) (x1 x7 x8 x9 x10 : PV) (hp : Hp) (k : Ex → St → Option R) : evC tys e5 r5_3 call rc ⟨[(1, x1), (7, x7), (8, x8), (9, x9), (10, x10)], hp⟩ k =
  bP (primIndexAddr tys hp 32 (some x7) (some x9)) fun y0 g0 =>
  bP (primLoad tys g0 9 (some y0)) fun y1 g1 =>
  k .normal ⟨[(1, x1), (6, y1), (7, x7), (8, x8), (9, x9)], g1⟩ := by kernel_rfl
theorem r5_4a (call : CallK R) (rc : RC R) (x1 x6 x7 x8 x9 : PV) (hp : Hp) (k : Ex → St → Option R) : evC tys e5 r5_4 call rc ⟨[(1, x1), (6, x6), (7, x7), (8, x8), (9, x9)], hp⟩ k =
  bP (primBin tys hp .eql 9 (some x6) (some x1)) fun y2 g2 =>
  k .normal ⟨[(1, x1), (7, x7), (8, x8), (9, x9), (15, y2)], g2⟩ := by kernel_rfl
theorem r5_5a (call : CallK R) (rc : RC R) (x1 x7 x8 x9 x15 : PV) (hp : Hp) (k : Ex → St → Option R) : evC tys e5 r5_5 call rc ⟨[(1, x1), (7, x7), (8, x8), (9, x9), (15, x15)], hp⟩ k =
  k .normal ⟨[(4, (.v (.bool true)))], hp⟩ := by kernel_rfl
theorem r5_6a (call : CallK R) (rc : RC R) (x1 x7 x8 x9 x15 : PV) (hp : Hp) (k : Ex → St → Option R) : evC tys e5 r5_6 call rc ⟨[(1, x1), (7, x7), (8, x8), (9, x9), (15, x15)], hp⟩ k =
  bP (primBin tys hp .add 3 (some x9) (some (i 1))) fun y0 g0 =>
  k .normal ⟨[(1, x1), (7, x7), (8, x8), (9, y0)], g0⟩ := by kernel_rfl
theorem r5_7a (call : CallK R) (rc : RC R) (x1 x7 x8 x9 x10 : PV) (hp : Hp) (k : Ex → St → Option R) : evC tys e5 r5_7 call rc ⟨[(1, x1), (7, x7), (8, x8), (9, x9), (10, x10)], hp⟩ k =
  k .normal ⟨[(4, (.v (.bool false)))], hp⟩ := by kernel_rfl
/-! function 35 -/
noncomputable def c35 : Code := codeOf Tryz.f35
noncomputable def r35_0 : Code := regAt 0 c35
noncomputable def r35_1 : Code := regAt 1 c35
noncomputable def r35_2 : Code := regAt 2 c35
noncomputable def r35_3 : Code := regAt 3 c35
noncomputable def r35_5 : Code := regAt 5 c35
noncomputable def r35_6 : Code := regAt 6 c35
noncomputable def r35_7 : Code := regAt 7 c35
noncomputable def r35_8 : Code := regAt 8 c35
noncomputable def r35_9 : Code := regAt 9 c35
noncomputable def r35_10 : Code := regAt 10 c35
noncomputable def r35_4 : Code := regAt 4 c35
noncomputable def r35_11 : Code := regAt 11 c35
noncomputable def l35_0 : Code := .loop (.seq (.seq r35_6 (.cond (.tmp 27) .skip (.exit 2))) (.block 3 r35_7))
theorem l35_0_eq : l35_0 = .loop (.seq (.seq r35_6 (.cond (.tmp 27) .skip (.exit 2))) (.block 3 r35_7)) := _root_.id rfl
noncomputable def l35_1 : Code := .loop (.seq (.seq r35_3 (.cond (.tmp 10) .skip (.exit 0))) (.seq (.block 1 (.seq r35_5 (.seq (.block 2 l35_0) (.seq (.seq r35_8 (.cond (.tmp 44) (.exit 1) .skip)) (.seq r35_9 r35_10))))) r35_4))
theorem l35_1_eq : l35_1 = .loop (.seq (.seq r35_3 (.cond (.tmp 10) .skip (.exit 0))) (.seq (.block 1 (.seq r35_5 (.seq (.block 2 l35_0) (.seq (.seq r35_8 (.cond (.tmp 44) (.exit 1) .skip)) (.seq r35_9 r35_10))))) r35_4)) := _root_.id rfl
theorem c35_eq : c35 = (.seq r35_0 (.seq r35_1 (.seq (.seq r35_2 (.block 0 l35_1)) (.seq r35_11 .ret)))) := by kernel_rfl
theorem b35 (rc : RC R) (x0 : PV) (hp : Hp) (k : PV → Hp → Option R) : bodyF tys e35 rc [x0] hp k = rc e35 c35 ⟨[(0, x0)], hp⟩ (endK tys e35.fn k) := by kernel_rfl
theorem z35a (x2 : PV) (hp : Hp) : resOf tys e35.fn ⟨[(2, x2)], hp⟩ = oneR (consO (some x2) (some [])) := by kernel_rfl
theorem r35_0a (call : CallK R) (rc : RC R) (x0 : PV) (hp : Hp) (k : Ex → St → Option R) : evC tys e35 r35_0 call rc ⟨[(0, x0)], hp⟩ k =
  k .normal ⟨[(0, x0)], hp⟩ := by kernel_rfl
theorem r35_1a (call : CallK R) (rc : RC R) (x0 : PV) (hp : Hp) (k : Ex → St → Option R) : evC tys e35 r35_1 call rc ⟨[(0, x0)], hp⟩ k =
  k .normal ⟨[(0, x0), (3, nl)], hp⟩ := by kernel_rfl
theorem r35_2a (call : CallK R) (rc : RC R) (x0 x3 : PV) (hp : Hp) (k : Ex → St → Option R) : evC tys e35 r35_2 call rc ⟨[(0, x0), (3, x3)], hp⟩ k =
  k .normal ⟨[(0, x0), (3, x3), (4, (i 0))], hp⟩ := by kernel_rfl
theorem r35_3a (call : CallK R) (rc : RC R) (x0 x3 x4 : PV) (hp : Hp) (k : Ex → St → Option R) : evC tys e35 r35_3 call rc ⟨[(0, x0), (3, x3), (4, x4)], hp⟩ k =
  bP (primLen tys hp 32 (some x0)) fun y2 g2 =>
  bP (primBin tys g2 .lss 3 (some x4) (some y2)) fun y3 g3 =>
  k .normal ⟨[(0, x0), (3, x3), (4, x4), (10, y3)], g3⟩ := by kernel_rfl
theorem r35_5a (call : CallK R) (rc : RC R) (x0 x3 x4 x10 : PV) (hp : Hp) (k : Ex → St → Option R) : evC tys e35 r35_5 call rc ⟨[(0, x0), (3, x3), (4, x4), (10, x10)], hp⟩ k =
  k .normal ⟨[(0, x0), (3, x3), (4, x4), (5, (i 0))], hp⟩ := by kernel_rfl
theorem r35_6a (call : CallK R) (rc : RC R) (x0 x3 x4 x5 : PV) (hp : Hp) (k : Ex → St → Option R) : evC tys e35 r35_6 call rc ⟨[(0, x0), (3, x3), (4, x4), (5, x5)], hp⟩ k =
  bP (primLen tys hp 32 (some x3)) fun y2 g2 =>
  bP (primBin tys g2 .lss 3 (some x5) (some y2)) fun y3 g3 =>
  bWD (wantOf true (some y3)) g3 (fun K => K x3 g3) fun b5 y5 g5 =>
  bLg (ranL b5 ⟨[], [], []⟩ (some ⟨[], [], []⟩)) fun l5 =>
  bWD (wantOf true (some y3)) g5 (fun K => K x5 g5) fun b6 y6 g6 =>
  bLg (ranL b6 l5 (some l5)) fun l6 =>
  bWD (wantOf true (some y3)) g6 (fun K => bP (primIndexAddr tys g6 32 (some y5) (some y6)) K) fun b7 y7 g7 =>
  bLg (ranL b7 l6 (some l6)) fun l7 =>
  bWD (wantOf true (some y3)) g7 (fun K => bP (primLoad tys g7 9 (some y7)) K) fun b8 y8 g8 =>
  bLg (ranL b8 l7 (logLoad tys 8 255 l7 g7.next y8 (some (9, y7)))) fun l8 =>
  bWD (wantOf true (some y3)) g8 (fun K => K x0 g8) fun b9 y9 g9 =>
  bLg (ranL b9 l8 (some l8)) fun l9 =>
  bWD (wantOf true (some y3)) g9 (fun K => K x4 g9) fun b10 y10 g10 =>
  bLg (ranL b10 l9 (some l9)) fun l10 =>
  bWD (wantOf true (some y3)) g10 (fun K => bP (primIndexAddr tys g10 32 (some y9) (some y10)) K) fun b11 y11 g11 =>
  bLg (ranL b11 l10 (some l10)) fun l11 =>
  bWD (wantOf true (some y3)) g11 (fun K => bP (primLoad tys g11 9 (some y11)) K) fun b12 y12 g12 =>
  bLg (ranL b12 l11 (logLoad tys 12 3615 l11 g11.next y12 (some (9, y11)))) fun l12 =>
  bWD (wantOf true (some y3)) g12 (fun K => bP (primBin tys g12 .lss 9 (some y8) (some y12)) K) fun b13 y13 g13 =>
  bLg (ranL b13 l12 (some l12)) fun l13 =>
  bP (primPick g13 (some y13) (some (.v (.bool false))) (some y3)) fun y14 g14 =>
  k .normal ⟨[(0, x0), (3, x3), (4, x4), (5, x5), (27, y14)], g14⟩ := by kernel_rfl
theorem r35_7a (call : CallK R) (rc : RC R) (x0 x3 x4 x5 x27 : PV) (hp : Hp) (k : Ex → St → Option R) : evC tys e35 r35_7 call rc ⟨[(0, x0), (3, x3), (4, x4), (5, x5), (27, x27)], hp⟩ k =
  bP (primBin tys hp .add 3 (some x5) (some (i 1))) fun y1 g1 =>
  k .normal ⟨[(0, x0), (3, x3), (4, x4), (5, y1)], g1⟩ := by kernel_rfl
theorem r35_8a (call : CallK R) (rc : RC R) (x0 x3 x4 x5 x27 : PV) (hp : Hp) (k : Ex → St → Option R) : evC tys e35 r35_8 call rc ⟨[(0, x0), (3, x3), (4, x4), (5, x5), (27, x27)], hp⟩ k =
  bP (primLen tys hp 32 (some x3)) fun y2 g2 =>
  bP (primBin tys g2 .lss 3 (some x5) (some y2)) fun y3 g3 =>
  bWD (wantOf true (some y3)) g3 (fun K => K x3 g3) fun b5 y5 g5 =>
  bLg (ranL b5 ⟨[], [], []⟩ (some ⟨[], [], []⟩)) fun l5 =>
  bWD (wantOf true (some y3)) g5 (fun K => K x5 g5) fun b6 y6 g6 =>
  bLg (ranL b6 l5 (some l5)) fun l6 =>
  bWD (wantOf true (some y3)) g6 (fun K => bP (primIndexAddr tys g6 32 (some y5) (some y6)) K) fun b7 y7 g7 =>
  bLg (ranL b7 l6 (some l6)) fun l7 =>
  bWD (wantOf true (some y3)) g7 (fun K => bP (primLoad tys g7 9 (some y7)) K) fun b8 y8 g8 =>
  bLg (ranL b8 l7 (logLoad tys 8 255 l7 g7.next y8 (some (9, y7)))) fun l8 =>
  bWD (wantOf true (some y3)) g8 (fun K => K x0 g8) fun b9 y9 g9 =>
  bLg (ranL b9 l8 (some l8)) fun l9 =>
  bWD (wantOf true (some y3)) g9 (fun K => K x4 g9) fun b10 y10 g10 =>
  bLg (ranL b10 l9 (some l9)) fun l10 =>
  bWD (wantOf true (some y3)) g10 (fun K => bP (primIndexAddr tys g10 32 (some y9) (some y10)) K) fun b11 y11 g11 =>
  bLg (ranL b11 l10 (some l10)) fun l11 =>
  bWD (wantOf true (some y3)) g11 (fun K => bP (primLoad tys g11 9 (some y11)) K) fun b12 y12 g12 =>
  bLg (ranL b12 l11 (logLoad tys 12 3615 l11 g11.next y12 (some (9, y11)))) fun l12 =>
  bWD (wantOf true (some y3)) g12 (fun K => bP (primBin tys g12 .eql 9 (some y8) (some y12)) K) fun b13 y13 g13 =>
  bLg (ranL b13 l12 (some l12)) fun l13 =>
  bP (primPick g13 (some y13) (some (.v (.bool false))) (some y3)) fun y14 g14 =>
  k .normal ⟨[(0, x0), (3, x3), (4, x4), (5, x5), (44, y14)], g14⟩ := by kernel_rfl
theorem r35_9a (call : CallK R) (rc : RC R) (x0 x3 x4 x5 x44 : PV) (hp : Hp) (k : Ex → St → Option R) : evC tys e35 r35_9 call rc ⟨[(0, x0), (3, x3), (4, x4), (5, x5), (44, x44)], hp⟩ k =
  bP (primSlice tys hp 32 (some x3) (some none) (some (some x5)) (some none)) fun y2 g2 =>
  bP (prim2 (app tys 32 g2) (some nl) (some y2)) fun y3 g3 =>
  k .normal ⟨[(0, x0), (3, x3), (4, x4), (5, x5), (6, y3)], g3⟩ := by kernel_rfl
theorem r35_10a (call : CallK R) (rc : RC R) (x0 x3 x4 x5 x6 : PV) (hp : Hp) (k : Ex → St → Option R) : evC tys e35 r35_10 call rc ⟨[(0, x0), (3, x3), (4, x4), (5, x5), (6, x6)], hp⟩ k =
  bP (primIndexAddr tys hp 32 (some x0) (some x4)) fun y3 g3 =>
  bP (primLoad tys g3 9 (some y3)) fun y4 g4 =>
  bLg (logLoad tys 4 14 ⟨[], [], []⟩ g3.next y4 (some (9, y3))) fun l4 =>
  bP (primBuildSlice tys g4 32 1 (some [(0, y4)])) fun y5 g5 =>
  bP (prim2 (app tys 32 g5) (some x6) (some y5)) fun y6 g6 =>
  bLg (logEff tys 6 63 (lgAlloc l4 5) g5 g6) fun l6 =>
  bP (primSlice tys g6 32 (some x3) (some (some x5)) (some none) (some none)) fun y9 g9 =>
  bP (prim2 (app tys 32 g9) (some y6) (some y9)) fun y10 g10 =>
  bLg (logEff tys 10 1023 l6 g9 g10) fun l10 =>
  k .normal ⟨[(0, x0), (3, y10), (4, x4)], g10⟩ := by kernel_rfl
theorem r35_4a (call : CallK R) (rc : RC R) (x0 x3 x4 : PV) (hp : Hp) (k : Ex → St → Option R) : evC tys e35 r35_4 call rc ⟨[(0, x0), (3, x3), (4, x4)], hp⟩ k =
  bP (primBin tys hp .add 3 (some x4) (some (i 1))) fun y1 g1 =>
  k .normal ⟨[(0, x0), (3, x3), (4, y1)], g1⟩ := by kernel_rfl
theorem r35_4b (call : CallK R) (rc : RC R) (x0 x3 x4 x5 x44 : PV) (hp : Hp) (k : Ex → St → Option R) : evC tys e35 r35_4 call rc ⟨[(0, x0), (3, x3), (4, x4), (5, x5), (44, x44)], hp⟩ k =
  bP (primBin tys hp .add 3 (some x4) (some (i 1))) fun y1 g1 =>
  k .normal ⟨[(0, x0), (3, x3), (4, y1)], g1⟩ := by kernel_rfl
theorem r35_11a (call : CallK R) (rc : RC R) (x0 x3 x4 x10 : PV) (hp : Hp) (k : Ex → St → Option R) : evC tys e35 r35_11 call rc ⟨[(0, x0), (3, x3), (4, x4), (10, x10)], hp⟩ k =
  k .normal ⟨[(2, x3)], hp⟩ := by kernel_rfl
end
end Go.Ev

/- Lists of texts that grow in a function's own blocks. -/
namespace Go.Ev
open Go.Proofs
theorem sized_all {sz : Nat} : ∀ {es : List (List PV)}, (∀ e ∈ es, e.length = sz) → sized sz es = true
  | [], _ => rfl
  | e :: es, h => by
    unfold sized
    rw [h e (List.mem_cons_self ..), Nat.beq_refl]
    exact sized_all fun x hx => h x (List.mem_cons_of_mem _ hx)
/-- a list of elements, as it may stand -/
def IsLs (ty sz : Nat) (hp : Hp) (x : PV) (es : List (List PV)) : Prop := AccS ty sz hp x es ∨ ((∀ e ∈ es, e.length = sz) ∧ ∃ ex, x = .sl es ex)
theorem src_cells {ty sz : Nat} {hp : Hp} {y : PV} {fs : List (List PV)} (h : IsLs ty sz hp y fs) : srcCells hp sz y = some (fs.length, fs.flatten) := by
  rcases h with ⟨h1, ⟨rfl, rfl⟩ | ⟨id, rfl, h2, h3⟩⟩ | ⟨h1, ex, rfl⟩
  · rfl
  · show (match Nat.beq sz sz with | false => none | true => match hp.get id with | none => none | some b => match cut b.cells 0 (fs.length * sz) with | none => none | some l => some (fs.length, l)) = _
    rw [Nat.beq_refl, h3]
    simp only []
    rw [cut_all _ _ (flatten_len h1)]
  · show (match sized sz fs with | true => some (fs.length, fs.flatten) | false => none) = _
    rw [sized_all h1]
/-- a list behind another -/
theorem AccS.appsS {hp : Hp} {sT ty sz by' : Nat} (ht : SlT tys sT ty sz by') {x y : PV} {es fs : List (List PV)} (h : AccS ty sz hp x es) (hf : ∀ e ∈ fs, e.length = sz) (hy : srcCells hp sz y = some (fs.length, fs.flatten)) (hl : (2 * (es.length + fs.length) + 1024) * by' ≤ 281474976710656) :
    ∃ x' hp', prim2 (Ev.app tys sT hp) (some x) (some y) = some (x', hp') ∧ AccS ty sz hp' x' (es ++ fs) ∧ hp.next ≤ hp'.next ∧ (fs = [] → x' = x ∧ hp' = hp) ∧ (fs ≠ [] → ∃ m, x' = .row hp.next 0 m m sz) ∧
      ∀ j, j < hp.next → (∀ o l c s, x ≠ .row j o l c s) → hp'.get j = hp.get j := by
  obtain ⟨si, ei, h1, rfl, h2, h3, h4, h5, h6⟩ := ht.ex
  have hs1 := ht.sz1
  have hb1 := ht.by1
  have hc : (Nat.ble 1 ei.size && Nat.ble 1 ei.bytes && Nat.beq ei.zero.length ei.size) = true := by
    rw [h4, h5, h6]
    simp only [Bool.and_eq_true]
    exact ⟨⟨Nat.ble_eq_true_of_le hs1, Nat.ble_eq_true_of_le hb1⟩, Nat.beq_refl _⟩
  have hsrc : srcCells hp ei.size y = some (fs.length, fs.flatten) := by rw [h4]; exact hy
  have hlim : limited (es.length + fs.length) ei.bytes = true := by
    rw [h5]; exact Nat.ble_eq_true_of_le hl
  have hall : ∀ e' ∈ es ++ fs, e'.length = sz := by
    intro e' he'
    rcases List.mem_append.1 he' with g | g
    · exact h.1 e' g
    · exact hf e' g
  show ∃ x' hp', Ev.app tys sT hp x y = some (x', hp') ∧ _
  unfold Ev.app
  simp only [h1, h2, h3, hc, hsrc]
  show ∃ x' hp', appTo hp si.elem ei x fs.length fs.flatten = some (x', hp') ∧ _
  cases hfs : fs with
  | nil =>
    rw [List.append_nil]
    refine ⟨x, hp, ?_, h, Nat.le_refl _, (fun _ => ⟨rfl, rfl⟩), (fun h => absurd rfl h), fun _ _ _ => rfl⟩
    rcases h.2 with ⟨rfl, rfl⟩ | ⟨id, rfl, hid, hg⟩
    · rfl
    · show appRow hp si.elem ei id 0 es.length es.length 0 [] = _
      unfold appRow
      simp only [hg, h4, Nat.beq_refl, Nat.add_zero, Nat.ble_eq_true_of_le (Nat.le_refl _)]
      rfl
  | cons f0 fr =>
    rw [← hfs]
    have hpos : 0 < fs.length := by rw [hfs]; simp
    have hn0 : Nat.beq fs.length 0 = false := by
      cases hq : Nat.beq fs.length 0 with
      | false => rfl
      | true => have := Nat.eq_of_beq_eq_true hq; omega
    rcases h.2 with ⟨rfl, rfl⟩ | ⟨id, rfl, hid, hg⟩
    · refine ⟨.row hp.next 0 fs.length fs.length ei.size, hp.new ⟨fs.flatten, ei.size, true, 0, si.elem⟩, ?_, ?_, ?_, (fun h => by rw [hfs] at h; cases h), fun _ => ⟨fs.length, by rw [h4]⟩, ?_⟩
      · show appNil hp si.elem ei fs.length fs.flatten = _
        have hlim1 : limited fs.length ei.bytes = true := by rw [List.length_nil, Nat.zero_add] at hlim; exact hlim
        unfold appNil newRow
        rw [hn0]
        simp only [hlim1]
      · refine ⟨hall, .inr ⟨hp.next, by rw [h4, List.nil_append], by show hp.next < hp.next + 1; omega, ?_⟩⟩
        rw [h4, List.nil_append]
        exact get_new_next _ _
      · show hp.next ≤ hp.next + 1; omega
      · intro j hj _
        rw [get_new_ne _ _ (by omega)]
    · have hle : Nat.ble (es.length + fs.length) es.length = false := by
        rw [Bool.eq_false_iff]; intro e; have := Nat.le_of_ble_eq_true e; omega
      have hfl := flatten_len h.1
      have hblt : Nat.blt (0 + es.length * sz) es.flatten.length = false := by
        rw [hfl, Bool.eq_false_iff]; intro e
        have := Nat.le_of_ble_eq_true e
        omega
      refine ⟨.row hp.next 0 (es.length + fs.length) (es.length + fs.length) sz, (hp.kill id).new ⟨es.flatten ++ fs.flatten, sz, true, 0, si.elem⟩, ?_, ?_, ?_, (fun h => by rw [hfs] at h; cases h), fun _ => ⟨_, rfl⟩, ?_⟩
      · show appRow hp si.elem ei id 0 es.length es.length fs.length fs.flatten = _
        unfold appRow
        simp only [hg, h4, Nat.beq_refl, hle]
        unfold appOut
        simp only [hlim, cut_all es.flatten (es.length * sz) hfl, hblt, Nat.beq_refl, Bool.not_true, Bool.or_false, newRow]
        rfl
      · refine ⟨hall, .inr ⟨hp.next, by simp, by show hp.next < hp.next + 1; omega, ?_⟩⟩
        have := get_new_next (hp.kill id) ⟨es.flatten ++ fs.flatten, sz, true, 0, si.elem⟩
        rw [List.flatten_append]
        exact this
      · show hp.next ≤ hp.next + 1; omega
      · intro j hj hx
        have hji : j ≠ id := fun e => hx 0 es.length es.length sz (by rw [e])
        rw [get_new_ne _ _ (by show j ≠ hp.next; omega), get_kill_ne _ hji]
theorem AccS.apps {hp : Hp} {sT ty sz by' : Nat} (ht : SlT tys sT ty sz by') {x y : PV} {es fs : List (List PV)} (h : AccS ty sz hp x es) (hy : IsLs ty sz hp y fs) (hl : (2 * (es.length + fs.length) + 1024) * by' ≤ 281474976710656) :
    ∃ x' hp', prim2 (Ev.app tys sT hp) (some x) (some y) = some (x', hp') ∧ AccS ty sz hp' x' (es ++ fs) ∧ hp.next ≤ hp'.next ∧ (fs = [] → x' = x ∧ hp' = hp) ∧ (fs ≠ [] → ∃ m, x' = .row hp.next 0 m m sz) ∧
      ∀ j, j < hp.next → (∀ o l c s, x ≠ .row j o l c s) → hp'.get j = hp.get j :=
  h.appsS ht (by
    rcases hy with hy | hy
    · exact hy.1
    · exact hy.1) (src_cells hy) hl
theorem sl32 : SlT tys 32 9 1 16 := ⟨⟨y32, y9, rfl, rfl, rfl, rfl, rfl, rfl, rfl⟩, by decide, by decide⟩
open A (Str)
/-- texts as elements -/
abbrev tx (l : List (List UInt8)) : List (List PV) := l.map fun t => [Str t]
theorem len32 {hp : Hp} {x : PV} {l : List (List UInt8)} (h : IsLs 9 1 hp x (tx l)) : primLen tys hp 32 (some x) = some (i l.length, hp) := by
  rcases h with ⟨h1, ⟨rfl, h2⟩ | ⟨id, rfl, h2, h3⟩⟩ | ⟨h1, ex, rfl⟩
  · have : l = [] := by simpa using h2
    subst this
    rfl
  · show lenRes hp (lenOf (.row id 0 (tx l).length (tx l).length 1)) = _
    rw [List.length_map]
    rfl
  · show lenRes hp (lenOf (.sl (tx l) ex)) = _
    show some (i (tx l).length, hp) = _
    rw [List.length_map]
end Go.Ev

/- Functions that share their caller's blocks: Among and free. -/
namespace Go.Ev
open Go.Proofs
noncomputable def e5s : FI := ⟨Tryz.f5, false, (.nd (.nd (.nd (.nd .lf (some [4]) .lf) (some [1,6,7,8,9]) .lf) (some [1,7,8,9]) (.nd .lf (some [4]) .lf)) (some [0,1]) (.nd (.nd .lf (some [1,7,8,9,15]) .lf) (some [1,7,8,9,10]) (.nd .lf (some [1,7,8,9]) .lf))), .lf, .lf, false, false⟩
theorem e5sok [Env] : FIOk Tryz.prog 5 e5s := .of Tryz.func5 (by kernel_rfl)
noncomputable def e17s : FI := ⟨Tryz.f17, false, (.nd (.nd (.nd (.nd .lf (some [1,2,3,27,28,29]) .lf) (some [1,2,3,27,28,29]) (.nd .lf (some [1,2,39,40,41]) .lf)) (some [1,2,3,20]) (.nd (.nd .lf (some [1,2,39,40,41,42]) .lf) (some [1,2,3,8,27,28,29]) (.nd .lf (some [6]) .lf))) (some [1,2,3]) (.nd (.nd (.nd .lf (some [1,2,39,40,41]) .lf) (some [1,2,3,27,28,29,30]) (.nd .lf (some [1,2,39,40,41]) .lf)) (some [1,2,3]) (.nd (.nd .lf (some [1,2,10,39,40,41]) .lf) (some [1,2,3,27,28,29]) .lf))), (.nd (.nd (.nd .lf none (.nd .lf (some [(0,0),(1,1),(2,0),(3,4),(4,0),(5,28),(6,60),(7,124),(8,0),(9,511),(10,1023)]) .lf)) none .lf) none .lf), .lf, false, false⟩
theorem e17sok [Env] : FIOk Tryz.prog 17 e17s := .of Tryz.func17 (by kernel_rfl)
section
variable {R : Type}
/-! function 5 -/
noncomputable def c5s : Code := codeOf Tryz.f5
noncomputable def r5s_0 : Code := regAt 0 c5s
noncomputable def r5s_1 : Code := regAt 1 c5s
noncomputable def r5s_2 : Code := regAt 2 c5s
noncomputable def r5s_3 : Code := regAt 3 c5s
noncomputable def r5s_4 : Code := regAt 4 c5s
noncomputable def r5s_5 : Code := regAt 5 c5s
noncomputable def r5s_6 : Code := regAt 6 c5s
noncomputable def r5s_7 : Code := regAt 7 c5s
noncomputable def l5s_0 : Code := .loop (.seq r5s_2 (.seq (.cond (.tmp 10) .skip (.exit 0)) (.seq (.block 1 (.seq r5s_3 (.seq r5s_4 (.cond (.tmp 15) (.seq r5s_5 .ret) .skip)))) r5s_6)))
theorem l5s_0_eq : l5s_0 = .loop (.seq r5s_2 (.seq (.cond (.tmp 10) .skip (.exit 0)) (.seq (.block 1 (.seq r5s_3 (.seq r5s_4 (.cond (.tmp 15) (.seq r5s_5 .ret) .skip)))) r5s_6))) := _root_.id rfl
theorem c5s_eq : c5s = (.seq r5s_0 (.seq (.seq r5s_1 (.block 0 l5s_0)) (.seq r5s_7 .ret))) := by kernel_rfl
theorem b5s (rc : RC R) (x0 x1 : PV) (hp : Hp) (k : PV → Hp → Option R) : bodyF tys e5s rc [x0, x1] hp k = rc e5s c5s ⟨[(0, x0), (1, x1)], hp⟩ (endK tys e5s.fn k) := by kernel_rfl
theorem z5sa (x4 : PV) (hp : Hp) : resOf tys e5s.fn ⟨[(4, x4)], hp⟩ = oneR (consO (some x4) (some [])) := by kernel_rfl
theorem r5s_0a (call : CallK R) (rc : RC R) (x0 x1 : PV) (hp : Hp) (k : Ex → St → Option R) : evC tys e5s r5s_0 call rc ⟨[(0, x0), (1, x1)], hp⟩ k =
  k .normal ⟨[(0, x0), (1, x1)], hp⟩ := by kernel_rfl
theorem r5s_1a (call : CallK R) (rc : RC R) (x0 x1 : PV) (hp : Hp) (k : Ex → St → Option R) : evC tys e5s r5s_1 call rc ⟨[(0, x0), (1, x1)], hp⟩ k =
  bP (primLen tys hp 32 (some x0)) fun y1 g1 =>
  k .normal ⟨[(1, x1), (7, x0), (8, y1), (9, (i 0))], g1⟩ := by kernel_rfl
theorem r5s_2a (call : CallK R) (rc : RC R) (x1 x7 x8 x9 : PV) (hp : Hp) (k : Ex → St → Option R) : evC tys e5s r5s_2 call rc ⟨[(1, x1), (7, x7), (8, x8), (9, x9)], hp⟩ k =
  bP (primBin tys hp .lss 3 (some x9) (some x8)) fun y0 g0 =>
  k .normal ⟨[(1, x1), (7, x7), (8, x8), (9, x9), (10, y0)], g0⟩ := by kernel_rfl
theorem r5s_3a (call : CallK R) (rc : RC R) (x1 x7 x8 x9 x10 : PV) (hp : Hp) (k : Ex → St → Option R) : evC tys e5s r5s_3 call rc ⟨[(1, x1), (7, x7), (8, x8), (9, x9), (10, x10)], hp⟩ k =
  bP (primIndexAddr tys hp 32 (some x7) (some x9)) fun y0 g0 =>
  bP (primLoad tys g0 9 (some y0)) fun y1 g1 =>
  k .normal ⟨[(1, x1), (6, y1), (7, x7), (8, x8), (9, x9)], g1⟩ := by kernel_rfl
theorem r5s_4a (call : CallK R) (rc : RC R) (x1 x6 x7 x8 x9 : PV) (hp : Hp) (k : Ex → St → Option R) : evC tys e5s r5s_4 call rc ⟨[(1, x1), (6, x6), (7, x7), (8, x8), (9, x9)], hp⟩ k =
  bP (primBin tys hp .eql 9 (some x6) (some x1)) fun y2 g2 =>
  k .normal ⟨[(1, x1), (7, x7), (8, x8), (9, x9), (15, y2)], g2⟩ := by kernel_rfl
theorem r5s_5a (call : CallK R) (rc : RC R) (x1 x7 x8 x9 x15 : PV) (hp : Hp) (k : Ex → St → Option R) : evC tys e5s r5s_5 call rc ⟨[(1, x1), (7, x7), (8, x8), (9, x9), (15, x15)], hp⟩ k =
  k .normal ⟨[(4, (.v (.bool true)))], hp⟩ := by kernel_rfl
theorem r5s_6a (call : CallK R) (rc : RC R) (x1 x7 x8 x9 x15 : PV) (hp : Hp) (k : Ex → St → Option R) : evC tys e5s r5s_6 call rc ⟨[(1, x1), (7, x7), (8, x8), (9, x9), (15, x15)], hp⟩ k =
  bP (primBin tys hp .add 3 (some x9) (some (i 1))) fun y0 g0 =>
  k .normal ⟨[(1, x1), (7, x7), (8, x8), (9, y0)], g0⟩ := by kernel_rfl
theorem r5s_7a (call : CallK R) (rc : RC R) (x1 x7 x8 x9 x10 : PV) (hp : Hp) (k : Ex → St → Option R) : evC tys e5s r5s_7 call rc ⟨[(1, x1), (7, x7), (8, x8), (9, x9), (10, x10)], hp⟩ k =
  k .normal ⟨[(4, (.v (.bool false)))], hp⟩ := by kernel_rfl
/-! function 17 -/
noncomputable def c17s : Code := codeOf Tryz.f17
noncomputable def r17s_0 : Code := regAt 0 c17s
noncomputable def r17s_1 : Code := regAt 1 c17s
noncomputable def r17s_2 : Code := regAt 2 c17s
noncomputable def r17s_3 : Code := regAt 3 c17s
noncomputable def r17s_4 : Code := regAt 4 c17s
noncomputable def r17s_5 : Code := regAt 5 c17s
noncomputable def r17s_6 : Code := regAt 6 c17s
noncomputable def r17s_7 : Code := regAt 7 c17s
noncomputable def r17s_8 : Code := regAt 8 c17s
noncomputable def r17s_9 : Code := regAt 9 c17s
noncomputable def r17s_10 : Code := regAt 10 c17s
noncomputable def r17s_11 : Code := regAt 11 c17s
noncomputable def r17s_12 : Code := regAt 12 c17s
noncomputable def r17s_13 : Code := regAt 13 c17s
noncomputable def l17s_0 : Code := .loop (.seq r17s_4 (.seq (.cond (.tmp 30) .skip (.exit 0)) (.seq (.block 1 (.seq r17s_5 r17s_6)) r17s_7)))
theorem l17s_0_eq : l17s_0 = .loop (.seq r17s_4 (.seq (.cond (.tmp 30) .skip (.exit 0)) (.seq (.block 1 (.seq r17s_5 r17s_6)) r17s_7))) := _root_.id rfl
noncomputable def l17s_1 : Code := .loop (.seq r17s_9 (.seq (.cond (.tmp 42) .skip (.exit 2)) (.seq (.block 3 (.seq r17s_10 r17s_11)) r17s_12)))
theorem l17s_1_eq : l17s_1 = .loop (.seq r17s_9 (.seq (.cond (.tmp 42) .skip (.exit 2)) (.seq (.block 3 (.seq r17s_10 r17s_11)) r17s_12))) := _root_.id rfl
theorem c17s_eq : c17s = (.seq r17s_0 (.seq (.seq r17s_1 (.cond (.tmp 20) r17s_2 .skip)) (.seq (.seq r17s_3 (.block 0 l17s_0)) (.seq (.seq r17s_8 (.block 2 l17s_1)) (.seq r17s_13 .ret))))) := by kernel_rfl
theorem b17s (rc : RC R) (x0 x1 x2 : PV) (hp : Hp) (k : PV → Hp → Option R) : bodyF tys e17s rc [x0, x1, x2] hp k = rc e17s c17s ⟨[(0, x0), (1, x1), (2, x2)], hp⟩ (endK tys e17s.fn k) := by kernel_rfl
theorem z17sa (x6 : PV) (hp : Hp) : resOf tys e17s.fn ⟨[(6, x6)], hp⟩ = oneR (consO (some x6) (some [])) := by kernel_rfl
theorem r17s_0a (call : CallK R) (rc : RC R) (x0 x1 x2 : PV) (hp : Hp) (k : Ex → St → Option R) : evC tys e17s r17s_0 call rc ⟨[(0, x0), (1, x1), (2, x2)], hp⟩ k =
  bP (primBox tys hp 30 (some x0)) fun y0 g0 =>
  k .normal ⟨[(1, x1), (2, x2), (3, y0)], g0⟩ := by kernel_rfl
theorem r17s_1a (call : CallK R) (rc : RC R) (x1 x2 x3 : PV) (hp : Hp) (k : Ex → St → Option R) : evC tys e17s r17s_1 call rc ⟨[(1, x1), (2, x2), (3, x3)], hp⟩ k =
  bP (primFieldAddr tys hp 30 0 (some x3)) fun y0 g0 =>
  bP (primLoad tys g0 3 (some y0)) fun y1 g1 =>
  bP (primBin tys g1 .eql 3 (some y1) (some (i 5))) fun y2 g2 =>
  bW (wantOf true (some y2)) g2 (fun K => K x1 g2) fun y4 g4 =>
  bW (wantOf true (some y2)) g4 (fun K => bP (primFieldAddr tys g4 30 3 (some x3)) K) fun y5 g5 =>
  bW (wantOf true (some y2)) g5 (fun K => bP (primLoad tys g5 9 (some y5)) K) fun y6 g6 =>
  bW (wantOf true (some y2)) g6 (fun K => call 5 [y4, y6] g6 K) fun y7 g7 =>
  bW (wantOf true (some y2)) g7 (fun K => bP (primUn g7 .not (some y7)) K) fun y8 g8 =>
  bP (primPick g8 (some y8) (some (.v (.bool false))) (some y2)) fun y9 g9 =>
  k .normal ⟨[(1, x1), (2, x2), (3, x3), (20, y9)], g9⟩ := by kernel_rfl
theorem r17s_2a (call : CallK R) (rc : RC R) (x1 x2 x3 x20 : PV) (hp : Hp) (k : Ex → St → Option R) : evC tys e17s r17s_2 call rc ⟨[(1, x1), (2, x2), (3, x3), (20, x20)], hp⟩ k =
  bP (primFieldAddr tys hp 30 3 (some x3)) fun y1 g1 =>
  bP (primLoad tys g1 9 (some y1)) fun y2 g2 =>
  bP (primBuildSlice tys g2 32 1 (some [(0, y2)])) fun y3 g3 =>
  bP (prim2 (app tys 32 g3) (some x2) (some y3)) fun y4 g4 =>
  k .normal ⟨[(1, x1), (2, y4), (3, x3)], g4⟩ := by kernel_rfl
theorem r17s_3a (call : CallK R) (rc : RC R) (x1 x2 x3 : PV) (hp : Hp) (k : Ex → St → Option R) : evC tys e17s r17s_3 call rc ⟨[(1, x1), (2, x2), (3, x3)], hp⟩ k =
  bP (primFieldAddr tys hp 30 4 (some x3)) fun y0 g0 =>
  bP (primLoad tys g0 23 (some y0)) fun y1 g1 =>
  bP (primLen tys g1 23 (some y1)) fun y2 g2 =>
  k .normal ⟨[(1, x1), (2, x2), (3, x3), (27, y1), (28, y2), (29, (i 0))], g2⟩ := by kernel_rfl
theorem r17s_3b (call : CallK R) (rc : RC R) (x1 x2 x3 x20 : PV) (hp : Hp) (k : Ex → St → Option R) : evC tys e17s r17s_3 call rc ⟨[(1, x1), (2, x2), (3, x3), (20, x20)], hp⟩ k =
  bP (primFieldAddr tys hp 30 4 (some x3)) fun y0 g0 =>
  bP (primLoad tys g0 23 (some y0)) fun y1 g1 =>
  bP (primLen tys g1 23 (some y1)) fun y2 g2 =>
  k .normal ⟨[(1, x1), (2, x2), (3, x3), (27, y1), (28, y2), (29, (i 0))], g2⟩ := by kernel_rfl
theorem r17s_4a (call : CallK R) (rc : RC R) (x1 x2 x3 x27 x28 x29 : PV) (hp : Hp) (k : Ex → St → Option R) : evC tys e17s r17s_4 call rc ⟨[(1, x1), (2, x2), (3, x3), (27, x27), (28, x28), (29, x29)], hp⟩ k =
  bP (primBin tys hp .lss 3 (some x29) (some x28)) fun y0 g0 =>
  k .normal ⟨[(1, x1), (2, x2), (3, x3), (27, x27), (28, x28), (29, x29), (30, y0)], g0⟩ := by kernel_rfl
theorem r17s_5a (call : CallK R) (rc : RC R) (x1 x2 x3 x27 x28 x29 x30 : PV) (hp : Hp) (k : Ex → St → Option R) : evC tys e17s r17s_5 call rc ⟨[(1, x1), (2, x2), (3, x3), (27, x27), (28, x28), (29, x29), (30, x30)], hp⟩ k =
  bP (primIndexAddr tys hp 23 (some x27) (some x29)) fun y0 g0 =>
  bP (primLoad tys g0 30 (some y0)) fun y1 g1 =>
  bP (primAlloc tys g1 30) fun y2 g2 =>
  bP (primStore tys g2 30 (some y2) (some y1)) fun y3 g3 =>
  k .normal ⟨[(1, x1), (2, x2), (3, x3), (8, y2), (27, x27), (28, x28), (29, x29)], g3⟩ := by kernel_rfl
theorem r17s_6a (call : CallK R) (rc : RC R) (x1 x2 x3 x8 x27 x28 x29 : PV) (hp : Hp) (k : Ex → St → Option R) : evC tys e17s r17s_6 call rc ⟨[(1, x1), (2, x2), (3, x3), (8, x8), (27, x27), (28, x28), (29, x29)], hp⟩ k =
  bP (primLoad tys hp 30 (some x8)) fun y0 g0 =>
  call 17 [y0, x1, x2] g0 fun y3 g3 =>
  k .normal ⟨[(1, x1), (2, y3), (3, x3), (27, x27), (28, x28), (29, x29)], g3⟩ := by kernel_rfl
theorem r17s_7a (call : CallK R) (rc : RC R) (x1 x2 x3 x27 x28 x29 : PV) (hp : Hp) (k : Ex → St → Option R) : evC tys e17s r17s_7 call rc ⟨[(1, x1), (2, x2), (3, x3), (27, x27), (28, x28), (29, x29)], hp⟩ k =
  bP (primBin tys hp .add 3 (some x29) (some (i 1))) fun y0 g0 =>
  k .normal ⟨[(1, x1), (2, x2), (3, x3), (27, x27), (28, x28), (29, y0)], g0⟩ := by kernel_rfl
theorem r17s_8a (call : CallK R) (rc : RC R) (x1 x2 x3 x27 x28 x29 x30 : PV) (hp : Hp) (k : Ex → St → Option R) : evC tys e17s r17s_8 call rc ⟨[(1, x1), (2, x2), (3, x3), (27, x27), (28, x28), (29, x29), (30, x30)], hp⟩ k =
  bP (primFieldAddr tys hp 30 6 (some x3)) fun y0 g0 =>
  bP (primLoad tys g0 25 (some y0)) fun y1 g1 =>
  bP (primLen tys g1 25 (some y1)) fun y2 g2 =>
  k .normal ⟨[(1, x1), (2, x2), (39, y1), (40, y2), (41, (i 0))], g2⟩ := by kernel_rfl
theorem r17s_9a (call : CallK R) (rc : RC R) (x1 x2 x39 x40 x41 : PV) (hp : Hp) (k : Ex → St → Option R) : evC tys e17s r17s_9 call rc ⟨[(1, x1), (2, x2), (39, x39), (40, x40), (41, x41)], hp⟩ k =
  bP (primBin tys hp .lss 3 (some x41) (some x40)) fun y0 g0 =>
  k .normal ⟨[(1, x1), (2, x2), (39, x39), (40, x40), (41, x41), (42, y0)], g0⟩ := by kernel_rfl
theorem r17s_10a (call : CallK R) (rc : RC R) (x1 x2 x39 x40 x41 x42 : PV) (hp : Hp) (k : Ex → St → Option R) : evC tys e17s r17s_10 call rc ⟨[(1, x1), (2, x2), (39, x39), (40, x40), (41, x41), (42, x42)], hp⟩ k =
  bP (primIndexAddr tys hp 25 (some x39) (some x41)) fun y0 g0 =>
  bP (primLoad tys g0 86 (some y0)) fun y1 g1 =>
  bP (primAlloc tys g1 86) fun y2 g2 =>
  bP (primStore tys g2 86 (some y2) (some y1)) fun y3 g3 =>
  k .normal ⟨[(1, x1), (2, x2), (10, y2), (39, x39), (40, x40), (41, x41)], g3⟩ := by kernel_rfl
theorem r17s_11a (call : CallK R) (rc : RC R) (x1 x2 x10 x39 x40 x41 : PV) (hp : Hp) (k : Ex → St → Option R) : evC tys e17s r17s_11 call rc ⟨[(1, x1), (2, x2), (10, x10), (39, x39), (40, x40), (41, x41)], hp⟩ k =
  bP (primFieldAddr tys hp 86 2 (some x10)) fun y0 g0 =>
  bP (primLoad tys g0 30 (some y0)) fun y1 g1 =>
  bLg (logLoad tys 1 1 ⟨[], [], []⟩ g0.next y1 (some (30, y0))) fun l1 =>
  bP (prim2 (app tys 32 g1) (some nl) (some x1)) fun y3 g3 =>
  bLg (logEff tys 3 4 l1 g1 g3) fun l3 =>
  bP (primLoad tys g3 86 (some x10)) fun y4 g4 =>
  bLg (logLoad tys 4 0 l3 g3.next y4 (some (86, x10))) fun l4 =>
  call 37 [y4] g4 fun y5 g5 =>
  bLg (logEff tys 5 28 l4 g4 g5) fun l5 =>
  call 36 [y5] g5 fun y6 g6 =>
  bLg (logEff tys 6 60 l5 g5 g6) fun l6 =>
  bP (prim2 (app tys 32 g6) (some y3) (some y6)) fun y7 g7 =>
  bLg (logEff tys 7 124 l6 g6 g7) fun l7 =>
  call 17 [y1, y7, x2] g7 fun y9 g9 =>
  bLg (logEff tys 9 511 l7 g7 g9) fun l9 =>
  k .normal ⟨[(1, x1), (2, y9), (39, x39), (40, x40), (41, x41)], g9⟩ := by kernel_rfl
theorem r17s_12a (call : CallK R) (rc : RC R) (x1 x2 x39 x40 x41 : PV) (hp : Hp) (k : Ex → St → Option R) : evC tys e17s r17s_12 call rc ⟨[(1, x1), (2, x2), (39, x39), (40, x40), (41, x41)], hp⟩ k =
  bP (primBin tys hp .add 3 (some x41) (some (i 1))) fun y0 g0 =>
  k .normal ⟨[(1, x1), (2, x2), (39, x39), (40, x40), (41, y0)], g0⟩ := by kernel_rfl
theorem r17s_13a (call : CallK R) (rc : RC R) (x1 x2 x39 x40 x41 x42 : PV) (hp : Hp) (k : Ex → St → Option R) : evC tys e17s r17s_13 call rc ⟨[(1, x1), (2, x2), (39, x39), (40, x40), (41, x41), (42, x42)], hp⟩ k =
  k .normal ⟨[(6, x2)], hp⟩ := by kernel_rfl
end
end Go.Ev

/- Among: the walk, in its caller's blocks. -/
namespace Go.Ev
open Go.Proofs
open A (Str)
theorem get_flat {l : List (List UInt8)} {j : Nat} : (tx l).flatten[j]? = (l[j]?).map Str := by
  induction l generalizing j with
  | nil => rfl
  | cons t l ih =>
    cases j with
    | zero => rfl
    | succ j => simpa using ih (j := j)
/-- one text of a list -/
theorem at32 {hp : Hp} {x : PV} {l : List (List UInt8)} (h : IsLs 9 1 hp x (tx l)) {j : Nat} {t : List UInt8} (hj : l[j]? = some t) : ∃ a, primIndexAddr tys hp 32 (some x) (some (i j)) = some (a, hp) ∧ primLoad tys hp 9 (some a) = some (Str t, hp) := by
  have hlt : j < l.length := (List.getElem?_eq_some_iff.1 hj).1
  rcases h with ⟨h1, ⟨rfl, h2⟩ | ⟨id, rfl, h2, h3⟩⟩ | ⟨h1, ex, rfl⟩
  · have : l = [] := by simpa using h2
    subst this
    cases hj
  · refine ⟨.ptr id (0 + j * 1), ?_, ?_⟩
    · show ret1 hp (match Nat.blt j (tx l).length with | false => none | true => some (PV.ptr id (0 + j * 1))) = _
      have : Nat.blt j (tx l).length = true := Nat.ble_eq_true_of_le (by rw [List.length_map]; omega)
      rw [this]
      rfl
    · have hc : (tx l).flatten[0 + j * 1]? = some (Str t) := by
        rw [show 0 + j * 1 = j by omega, get_flat, hj]; rfl
      exact load_cell (i := y9) rfl rfl h3 hc
  · refine ⟨.ep [Str t] 0, ?_, rfl⟩
    show ret1 hp (idxSl 1 (.sl (tx l) ex) j) = _
    unfold idxSl
    simp only [List.getElem?_map, hj, Option.map_some]
    rfl
def amB (l : List (List UInt8)) (t : List UInt8) : Bool := l.any fun u => bytesEq u t
theorem amB_drop {l : List (List UInt8)} {t u : List UInt8} {j : Nat} (h : l[j]? = some u) : amB (l.drop j) t = (bytesEq u t || amB (l.drop (j + 1)) t) := by
  obtain ⟨h1, h2⟩ := List.getElem?_eq_some_iff.1 h
  rw [List.drop_eq_getElem_cons h1, h2]
  rfl
section
variable {R : Type}
theorem eql9 (hp : Hp) (a b : List UInt8) : primBin tys hp .eql 9 (some (Str a)) (some (Str b)) = some (.v (.bool (bytesEq a b)), hp) := _root_.id rfl
theorem among_loop (FT : Fns) (O : Orc) {x0 : PV} {l : List (List UInt8)} {hp : Hp} (h : IsLs 9 1 hp x0 (tx l)) (hlen : l.length ≤ 1000000000000) (t : List UInt8) : ∀ (m n j : Nat) (k : Ex → St → Option R), l.length = j + m →
    evC tys e5s l5s_0 (callF tys FT O (run tys FT O (n + m))) (run tys FT O (n + m)) ⟨[(1, Str t), (7, x0), (8, i l.length), (9, i j)], hp⟩ k =
      match amB (l.drop j) t with
      | true => k .ret ⟨[(4, .v (.bool true))], hp⟩
      | false => k (.exit 0) ⟨[(1, Str t), (7, x0), (8, i l.length), (9, i l.length), (10, .v (.bool false))], hp⟩ := by
  intro m
  induction m with
  | zero =>
    intro n j k hm
    obtain rfl : j = l.length := by omega
    rw [List.drop_length]
    simp only [l5s_0_eq, ev_loop, ev_seq, r5s_2a, primBin_eq, bin_int, int_lss, ofNat_ble, Nat.ble_eq_true_of_le (Nat.le_refl _), Bool.not_true, ret1_some', bP_some, seqK_normal, ev_cond, opd_tmp, alget, Nat.reduceEqDiff, reduceIte, bB_false, ev_exit, seqK_exit]
    rfl
  | succ m ih =>
    intro n j k hm
    have hlt : Nat.ble l.length j = false := by rw [Bool.eq_false_iff]; intro e; have := Nat.le_of_ble_eq_true e; omega
    obtain ⟨u, hu⟩ : ∃ u, l[j]? = some u := ⟨_, List.getElem?_eq_getElem (by omega)⟩
    obtain ⟨a, h1, h2⟩ := at32 h hu
    have hadd := int_add64 j 1 (by omega)
    rw [amB_drop hu]
    simp only [l5s_0_eq, ev_loop, ev_seq, r5s_2a, primBin_eq, bin_int, int_lss, ofNat_ble, hlt, Bool.not_false, ret1_some', bP_some, seqK_normal, ev_cond, opd_tmp, alget, Nat.reduceEqDiff, reduceIte, bB_true, ev_skip, ev_block, r5s_3a, h1, h2, r5s_4a, bin_str, strBin]
    cases hb : bytesEq u t with
    | true =>
      simp only [bB_true, ev_seq, r5s_5a, seqK_normal, ev_ret, seqK_ret, blockK_ret, Bool.true_or]
    | false =>
      simp only [bB_false, ev_skip, seqK_normal, blockK_normal, r5s_6a, primBin_eq, bin_int, hadd, ret1_some', bP_some, Bool.false_or]
      rw [show n + (m + 1) = n + m + 1 from rfl, run_succ]
      have := ih n (j + 1) k (by omega)
      simp only [l5s_0_eq] at this
      exact this
theorem among_own (FT : Fns) (O : Orc) {x0 : PV} {l : List (List UInt8)} {hp : Hp} (h : IsLs 9 1 hp x0 (tx l)) (hlen : l.length ≤ 1000000000000) (t : List UInt8) (n : Nat) (k : PV → Hp → Option R) : bodyF tys e5s (run tys FT O (n + l.length + 1)) [x0, Str t] hp k = k (.v (.bool (amB l t))) hp := by
  rw [b5s, run_succ, c5s_eq]
  simp only [ev_seq, r5s_0a, seqK_normal, r5s_1a, len32 h, bP_some, ev_block]
  rw [among_loop FT O h hlen t l.length n 0 _ (by omega), List.drop_zero]
  cases amB l t with
  | true => simp only [blockK_ret, seqK_ret, endK_ret, z5sa, consO_some, oneR_one, bQ_some]
  | false => simp only [blockK_at, reduceIte, seqK_normal, ev_seq, r5s_7a, ev_ret, seqK_ret, endK_ret, z5sa, consO_some, oneR_one, bQ_some]
end
end Go.Ev
