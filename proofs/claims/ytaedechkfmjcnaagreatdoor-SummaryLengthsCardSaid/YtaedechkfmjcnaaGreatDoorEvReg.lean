/- What the regions come to. -/
import Derived.Test.YtaedechkfmjcnaaGreatDoorEvSh
import Derived.Test.YtaedechkfmjcnaaGreatDoorEvTabF
set_option linter.all false
namespace Go.Ev
open Go.Proofs
section
variable {R : Type}
/-! function 3 -/
noncomputable def c3 : Code := codeOf Tryz.f3
noncomputable def r3_0 : Code := regAt 0 c3
noncomputable def r3_1 : Code := regAt 1 c3
noncomputable def r3_2 : Code := regAt 2 c3
noncomputable def r3_3 : Code := regAt 3 c3
noncomputable def r3_4 : Code := regAt 4 c3
noncomputable def r3_5 : Code := regAt 5 c3
noncomputable def r3_6 : Code := regAt 6 c3
theorem c3_eq : c3 = (.seq r3_0 (.seq r3_1 (.seq r3_2 (.seq r3_3 (.seq r3_4 (.seq r3_5 (.seq r3_6 .ret))))))) := by kernel_rfl
theorem b3 (rc : RC R) (x0 x1 : PV) (hp : Hp) (k : PV → Hp → Option R) : bodyF tys e3 rc [x0, x1] hp k = rc e3 c3 ⟨[(0, x0), (1, x1)], hp⟩ (endK tys e3.fn k) := by kernel_rfl
theorem z3a (x4 : PV) (hp : Hp) : resOf tys e3.fn ⟨[(4, x4)], hp⟩ = oneR (consO (some x4) (some [])) := by kernel_rfl
theorem r3_0a (call : CallK R) (rc : RC R) (x0 x1 : PV) (hp : Hp) (k : Ex → St → Option R) : evC tys e3 r3_0 call rc ⟨[(0, x0), (1, x1)], hp⟩ k =
  k .normal ⟨[(0, x0)], hp⟩ := by kernel_rfl
theorem r3_1a (call : CallK R) (rc : RC R) (x0 : PV) (hp : Hp) (k : Ex → St → Option R) : evC tys e3 r3_1 call rc ⟨[(0, x0)], hp⟩ k =
  call 5 [x0] hp fun y1 g1 =>
  bP (primBin tys g1 .add 9 (some (sb [1,109,1])) (some y1)) fun y2 g2 =>
  call 4 [y2] g2 fun y3 g3 =>
  k .normal ⟨[(0, x0), (5, y3)], g3⟩ := by kernel_rfl
theorem r3_2a (call : CallK R) (rc : RC R) (x0 x5 : PV) (hp : Hp) (k : Ex → St → Option R) : evC tys e3 r3_2 call rc ⟨[(0, x0), (5, x5)], hp⟩ k =
  call 6 [x5] hp fun y1 g1 =>
  bP (primExtract g1 0 (some y1)) fun y3 g3 =>
  bP (primExtract g3 1 (some y1)) fun y4 g4 =>
  bP (primAlloc tys g4 26) fun y5 g5 =>
  bP (primStore tys g5 26 (some y5) (some y3)) fun y6 g6 =>
  k .normal ⟨[(0, x0), (5, x5), (7, y4)], g6⟩ := by kernel_rfl
theorem r3_3a (call : CallK R) (rc : RC R) (x0 x5 x7 : PV) (hp : Hp) (k : Ex → St → Option R) : evC tys e3 r3_3 call rc ⟨[(0, x0), (5, x5), (7, x7)], hp⟩ k =
  call 7 [x5] hp fun y1 g1 =>
  bP (primExtract g1 0 (some y1)) fun y3 g3 =>
  bP (primExtract g3 1 (some y1)) fun y4 g4 =>
  bP (primAlloc tys g4 26) fun y5 g5 =>
  bP (primStore tys g5 26 (some y5) (some y3)) fun y6 g6 =>
  k .normal ⟨[(0, x0), (7, x7), (9, y4)], g6⟩ := by kernel_rfl
theorem r3_4a (call : CallK R) (rc : RC R) (x0 x7 x9 : PV) (hp : Hp) (k : Ex → St → Option R) : evC tys e3 r3_4 call rc ⟨[(0, x0), (7, x7), (9, x9)], hp⟩ k =
  call 5 [x0] hp fun y1 g1 =>
  bP (primBin tys g1 .add 9 (some (sb [1])) (some y1)) fun y2 g2 =>
  call 4 [y2] g2 fun y3 g3 =>
  call 8 [y3] g3 fun y4 g4 =>
  bP (primExtract g4 0 (some y4)) fun y6 g6 =>
  bP (primExtract g6 1 (some y4)) fun y7 g7 =>
  bP (primAlloc tys g7 32) fun y8 g8 =>
  bP (primStore tys g8 32 (some y8) (some y6)) fun y9 g9 =>
  k .normal ⟨[(0, x0), (7, x7), (9, x9), (11, y7)], g9⟩ := by kernel_rfl
theorem r3_5a (call : CallK R) (rc : RC R) (x0 x7 x9 x11 : PV) (hp : Hp) (k : Ex → St → Option R) : evC tys e3 r3_5 call rc ⟨[(0, x0), (7, x7), (9, x9), (11, x11)], hp⟩ k =
  call 5 [x0] hp fun y1 g1 =>
  bP (primBin tys g1 .add 9 (some (sb [1])) (some y1)) fun y2 g2 =>
  call 4 [y2] g2 fun y3 g3 =>
  call 9 [y3] g3 fun y4 g4 =>
  bP (primExtract g4 0 (some y4)) fun y6 g6 =>
  bP (primExtract g6 1 (some y4)) fun y7 g7 =>
  bP (primAlloc tys g7 32) fun y8 g8 =>
  bP (primStore tys g8 32 (some y8) (some y6)) fun y9 g9 =>
  k .normal ⟨[(7, x7), (9, x9), (11, x11), (13, y7)], g9⟩ := by kernel_rfl
theorem r3_6a (call : CallK R) (rc : RC R) (x7 x9 x11 x13 : PV) (hp : Hp) (k : Ex → St → Option R) : evC tys e3 r3_6 call rc ⟨[(7, x7), (9, x9), (11, x11), (13, x13)], hp⟩ k =
  bP (primBin tys hp .eql 27 (some x7) (some x9)) fun y2 g2 =>
  bW (wantOf true (some y2)) g2 (fun K => K x11 g2) fun y4 g4 =>
  bW (wantOf true (some y2)) g4 (fun K => K x13 g4) fun y5 g5 =>
  bW (wantOf true (some y2)) g5 (fun K => bP (primBin tys g5 .eql 27 (some y4) (some y5)) K) fun y6 g6 =>
  bP (primPick g6 (some y6) (some (.v (.bool false))) (some y2)) fun y7 g7 =>
  bW (wantOf true (some y7)) g7 (fun K => call 10 [(i 0)] g7 K) fun y9 g9 =>
  bW (wantOf true (some y7)) g9 (fun K => bP (primBin tys g9 .eql 9 (some y9) (some (sb [48]))) K) fun y10 g10 =>
  bP (primPick g10 (some y10) (some (.v (.bool false))) (some y7)) fun y11 g11 =>
  bW (wantOf true (some y11)) g11 (fun K => call 11 [] g11 K) fun y13 g13 =>
  bP (primPick g13 (some y13) (some (.v (.bool false))) (some y11)) fun y14 g14 =>
  k .normal ⟨[(4, y14)], g14⟩ := by kernel_rfl
/-! function 4 -/
noncomputable def c4 : Code := codeOf Tryz.f4
noncomputable def r4_0 : Code := regAt 0 c4
noncomputable def r4_1 : Code := regAt 1 c4
noncomputable def r4_2 : Code := regAt 2 c4
theorem c4_eq : c4 = (.seq r4_0 (.seq r4_1 (.seq r4_2 .ret))) := by kernel_rfl
theorem b4 (rc : RC R) (x0 : PV) (hp : Hp) (k : PV → Hp → Option R) : bodyF tys e4 rc [x0] hp k = rc e4 c4 ⟨[(0, x0)], hp⟩ (endK tys e4.fn k) := by kernel_rfl
theorem z4a (x2 : PV) (hp : Hp) : resOf tys e4.fn ⟨[(2, x2)], hp⟩ = oneR (consO (some x2) (some [])) := by kernel_rfl
theorem r4_0a (call : CallK R) (rc : RC R) (x0 : PV) (hp : Hp) (k : Ex → St → Option R) : evC tys e4 r4_0 call rc ⟨[(0, x0)], hp⟩ k =
  k .normal ⟨[(0, x0)], hp⟩ := by kernel_rfl
theorem r4_1a (call : CallK R) (rc : RC R) (x0 : PV) (hp : Hp) (k : Ex → St → Option R) : evC tys e4 r4_1 call rc ⟨[(0, x0)], hp⟩ k =
  call 12 [x0] hp fun y1 g1 =>
  k .normal ⟨[(0, x0), (3, y1)], g1⟩ := by kernel_rfl
theorem r4_2a (call : CallK R) (rc : RC R) (x0 x3 : PV) (hp : Hp) (k : Ex → St → Option R) : evC tys e4 r4_2 call rc ⟨[(0, x0), (3, x3)], hp⟩ k =
  bP (primConv tys hp 37 5 (some x3)) fun y2 g2 =>
  bP (primBin tys g2 .shr 37 (some x3) (some (.v (.int .u64 (.ofNat 8))))) fun y4 g4 =>
  bP (primConv tys g4 37 5 (some y4)) fun y5 g5 =>
  bP (primBin tys g5 .shr 37 (some x3) (some (.v (.int .u64 (.ofNat 16))))) fun y7 g7 =>
  bP (primConv tys g7 37 5 (some y7)) fun y8 g8 =>
  bP (primBin tys g8 .shr 37 (some x3) (some (.v (.int .u64 (.ofNat 24))))) fun y10 g10 =>
  bP (primConv tys g10 37 5 (some y10)) fun y11 g11 =>
  bP (primBuildSlice tys g11 40 4 (some [(0, y2), (1, y5), (2, y8), (3, y11)])) fun y12 g12 =>
  bP (primConv tys g12 40 9 (some y12)) fun y13 g13 =>
  bP (primBin tys g13 .add 9 (some x0) (some y13)) fun y14 g14 =>
  k .normal ⟨[(2, y14)], g14⟩ := by kernel_rfl
/-! function 5 -/
noncomputable def c5 : Code := codeOf Tryz.f5
noncomputable def r5_0 : Code := regAt 0 c5
noncomputable def r5_1 : Code := regAt 1 c5
noncomputable def r5_2 : Code := regAt 2 c5
noncomputable def r5_3 : Code := regAt 3 c5
noncomputable def r5_4 : Code := regAt 4 c5
noncomputable def r5_5 : Code := regAt 5 c5
noncomputable def r5_6 : Code := regAt 6 c5
noncomputable def r5_7 : Code := regAt 7 c5
noncomputable def r5_8 : Code := regAt 8 c5
noncomputable def l5_0 : Code := .loop (.seq (.seq r5_5 (.cond (.tmp 13) .skip (.exit 0))) (.block 1 (.seq r5_6 r5_7)))
theorem l5_0_eq : l5_0 = .loop (.seq (.seq r5_5 (.cond (.tmp 13) .skip (.exit 0))) (.block 1 (.seq r5_6 r5_7))) := _root_.id rfl
theorem c5_eq : c5 = (.seq r5_0 (.seq r5_1 (.seq (.seq r5_2 (.cond (.tmp 9) r5_3 .skip)) (.seq r5_4 (.seq (.block 0 l5_0) (.seq r5_8 .ret)))))) := by kernel_rfl
theorem b5 (rc : RC R) (x0 : PV) (hp : Hp) (k : PV → Hp → Option R) : bodyF tys e5 rc [x0] hp k = rc e5 c5 ⟨[(0, x0)], hp⟩ (endK tys e5.fn k) := by kernel_rfl
theorem z5a (x2 : PV) (hp : Hp) : resOf tys e5.fn ⟨[(2, x2)], hp⟩ = oneR (consO (some x2) (some [])) := by kernel_rfl
theorem r5_0a (call : CallK R) (rc : RC R) (x0 : PV) (hp : Hp) (k : Ex → St → Option R) : evC tys e5 r5_0 call rc ⟨[(0, x0)], hp⟩ k =
  k .normal ⟨[(0, x0)], hp⟩ := by kernel_rfl
theorem r5_1a (call : CallK R) (rc : RC R) (x0 : PV) (hp : Hp) (k : Ex → St → Option R) : evC tys e5 r5_1 call rc ⟨[(0, x0)], hp⟩ k =
  bP (primConv tys hp 2 41 (some x0)) fun y1 g1 =>
  bP (primBin tys g1 .shl 41 (some y1) (some (.v (.int .u64 (.ofNat 1))))) fun y2 g2 =>
  k .normal ⟨[(0, x0), (3, y2)], g2⟩ := by kernel_rfl
theorem r5_2a (call : CallK R) (rc : RC R) (x0 x3 : PV) (hp : Hp) (k : Ex → St → Option R) : evC tys e5 r5_2 call rc ⟨[(0, x0), (3, x3)], hp⟩ k =
  bP (primBin tys hp .lss 2 (some x0) (some (i 0))) fun y1 g1 =>
  k .normal ⟨[(3, x3), (9, y1)], g1⟩ := by kernel_rfl
theorem r5_3a (call : CallK R) (rc : RC R) (x3 x9 : PV) (hp : Hp) (k : Ex → St → Option R) : evC tys e5 r5_3 call rc ⟨[(3, x3), (9, x9)], hp⟩ k =
  bP (primUn hp .xor (some x3)) fun y1 g1 =>
  k .normal ⟨[(3, y1)], g1⟩ := by kernel_rfl
theorem r5_4a (call : CallK R) (rc : RC R) (x3 : PV) (hp : Hp) (k : Ex → St → Option R) : evC tys e5 r5_4 call rc ⟨[(3, x3)], hp⟩ k =
  k .normal ⟨[(3, x3), (4, nl)], hp⟩ := by kernel_rfl
theorem r5_4b (call : CallK R) (rc : RC R) (x3 x9 : PV) (hp : Hp) (k : Ex → St → Option R) : evC tys e5 r5_4 call rc ⟨[(3, x3), (9, x9)], hp⟩ k =
  k .normal ⟨[(3, x3), (4, nl)], hp⟩ := by kernel_rfl
theorem r5_5a (call : CallK R) (rc : RC R) (x3 x4 : PV) (hp : Hp) (k : Ex → St → Option R) : evC tys e5 r5_5 call rc ⟨[(3, x3), (4, x4)], hp⟩ k =
  bP (primBin tys hp .geq 41 (some x3) (some (.v (.int .u64 (.ofNat 128))))) fun y1 g1 =>
  k .normal ⟨[(3, x3), (4, x4), (13, y1)], g1⟩ := by kernel_rfl
theorem r5_6a (call : CallK R) (rc : RC R) (x3 x4 x13 : PV) (hp : Hp) (k : Ex → St → Option R) : evC tys e5 r5_6 call rc ⟨[(3, x3), (4, x4), (13, x13)], hp⟩ k =
  bP (primBin tys hp .rem 41 (some x3) (some (.v (.int .u64 (.ofNat 128))))) fun y2 g2 =>
  bP (primConv tys g2 41 5 (some y2)) fun y3 g3 =>
  bP (primBin tys g3 .add 5 (some y3) (some (.v (.int .u8 (.ofNat 128))))) fun y4 g4 =>
  bP (primBuildSlice tys g4 40 1 (some [(0, y4)])) fun y5 g5 =>
  bP (prim2 (app tys 40 g5) (some x4) (some y5)) fun y6 g6 =>
  k .normal ⟨[(3, x3), (4, y6)], g6⟩ := by kernel_rfl
theorem r5_7a (call : CallK R) (rc : RC R) (x3 x4 : PV) (hp : Hp) (k : Ex → St → Option R) : evC tys e5 r5_7 call rc ⟨[(3, x3), (4, x4)], hp⟩ k =
  bP (primBin tys hp .quo 41 (some x3) (some (.v (.int .u64 (.ofNat 128))))) fun y1 g1 =>
  k .normal ⟨[(3, y1), (4, x4)], g1⟩ := by kernel_rfl
theorem r5_8a (call : CallK R) (rc : RC R) (x3 x4 x13 : PV) (hp : Hp) (k : Ex → St → Option R) : evC tys e5 r5_8 call rc ⟨[(3, x3), (4, x4), (13, x13)], hp⟩ k =
  bP (primConv tys hp 41 5 (some x3)) fun y2 g2 =>
  bP (primBuildSlice tys g2 40 1 (some [(0, y2)])) fun y3 g3 =>
  bP (prim2 (app tys 40 g3) (some x4) (some y3)) fun y4 g4 =>
  bP (primConv tys g4 40 9 (some y4)) fun y5 g5 =>
  k .normal ⟨[(2, y5)], g5⟩ := by kernel_rfl
/-! function 12 -/
noncomputable def c12 : Code := codeOf Tryz.f12
noncomputable def r12_0 : Code := regAt 0 c12
noncomputable def r12_1 : Code := regAt 1 c12
noncomputable def r12_2 : Code := regAt 2 c12
noncomputable def r12_3 : Code := regAt 3 c12
noncomputable def r12_5 : Code := regAt 5 c12
noncomputable def r12_6 : Code := regAt 6 c12
noncomputable def r12_7 : Code := regAt 7 c12
noncomputable def r12_9 : Code := regAt 9 c12
noncomputable def r12_10 : Code := regAt 10 c12
noncomputable def r12_11 : Code := regAt 11 c12
noncomputable def r12_12 : Code := regAt 12 c12
noncomputable def r12_8 : Code := regAt 8 c12
noncomputable def r12_4 : Code := regAt 4 c12
noncomputable def r12_13 : Code := regAt 13 c12
noncomputable def l12_0 : Code := .loop (.seq (.seq r12_7 (.cond (.tmp 20) .skip (.exit 2))) (.seq (.block 3 (.seq r12_9 (.seq r12_10 (.seq r12_11 (.cond (.tmp 28) r12_12 .skip))))) r12_8))
theorem l12_0_eq : l12_0 = .loop (.seq (.seq r12_7 (.cond (.tmp 20) .skip (.exit 2))) (.seq (.block 3 (.seq r12_9 (.seq r12_10 (.seq r12_11 (.cond (.tmp 28) r12_12 .skip))))) r12_8)) := _root_.id rfl
noncomputable def l12_1 : Code := .loop (.seq (.seq r12_3 (.cond (.tmp 10) .skip (.exit 0))) (.seq (.block 1 (.seq r12_5 (.seq r12_6 (.block 2 l12_0)))) r12_4))
theorem l12_1_eq : l12_1 = .loop (.seq (.seq r12_3 (.cond (.tmp 10) .skip (.exit 0))) (.seq (.block 1 (.seq r12_5 (.seq r12_6 (.block 2 l12_0)))) r12_4)) := _root_.id rfl
theorem c12_eq : c12 = (.seq r12_0 (.seq r12_1 (.seq (.seq r12_2 (.block 0 l12_1)) (.seq r12_13 .ret)))) := by kernel_rfl
theorem b12 (rc : RC R) (x0 : PV) (hp : Hp) (k : PV → Hp → Option R) : bodyF tys e12 rc [x0] hp k = rc e12 c12 ⟨[(0, x0)], hp⟩ (endK tys e12.fn k) := by kernel_rfl
theorem z12a (x2 : PV) (hp : Hp) : resOf tys e12.fn ⟨[(2, x2)], hp⟩ = oneR (consO (some x2) (some [])) := by kernel_rfl
theorem r12_0a (call : CallK R) (rc : RC R) (x0 : PV) (hp : Hp) (k : Ex → St → Option R) : evC tys e12 r12_0 call rc ⟨[(0, x0)], hp⟩ k =
  k .normal ⟨[(0, x0)], hp⟩ := by kernel_rfl
theorem r12_1a (call : CallK R) (rc : RC R) (x0 : PV) (hp : Hp) (k : Ex → St → Option R) : evC tys e12 r12_1 call rc ⟨[(0, x0)], hp⟩ k =
  k .normal ⟨[(0, x0), (3, (.v (.int .u32 (.ofNat 4294967295))))], hp⟩ := by kernel_rfl
theorem r12_2a (call : CallK R) (rc : RC R) (x0 x3 : PV) (hp : Hp) (k : Ex → St → Option R) : evC tys e12 r12_2 call rc ⟨[(0, x0), (3, x3)], hp⟩ k =
  k .normal ⟨[(0, x0), (3, x3), (4, (i 0))], hp⟩ := by kernel_rfl
theorem r12_3a (call : CallK R) (rc : RC R) (x0 x3 x4 : PV) (hp : Hp) (k : Ex → St → Option R) : evC tys e12 r12_3 call rc ⟨[(0, x0), (3, x3), (4, x4)], hp⟩ k =
  bP (primLen tys hp 9 (some x0)) fun y2 g2 =>
  bP (primBin tys g2 .lss 3 (some x4) (some y2)) fun y3 g3 =>
  k .normal ⟨[(0, x0), (3, x3), (4, x4), (10, y3)], g3⟩ := by kernel_rfl
theorem r12_5a (call : CallK R) (rc : RC R) (x0 x3 x4 x10 : PV) (hp : Hp) (k : Ex → St → Option R) : evC tys e12 r12_5 call rc ⟨[(0, x0), (3, x3), (4, x4), (10, x10)], hp⟩ k =
  bP (primIndex tys hp 9 (some x0) (some x4)) fun y3 g3 =>
  bP (primConv tys g3 5 37 (some y3)) fun y4 g4 =>
  bP (primBin tys g4 .xor 37 (some x3) (some y4)) fun y5 g5 =>
  k .normal ⟨[(0, x0), (3, y5), (4, x4)], g5⟩ := by kernel_rfl
theorem r12_6a (call : CallK R) (rc : RC R) (x0 x3 x4 : PV) (hp : Hp) (k : Ex → St → Option R) : evC tys e12 r12_6 call rc ⟨[(0, x0), (3, x3), (4, x4)], hp⟩ k =
  k .normal ⟨[(0, x0), (3, x3), (4, x4), (5, (i 0))], hp⟩ := by kernel_rfl
theorem r12_7a (call : CallK R) (rc : RC R) (x0 x3 x4 x5 : PV) (hp : Hp) (k : Ex → St → Option R) : evC tys e12 r12_7 call rc ⟨[(0, x0), (3, x3), (4, x4), (5, x5)], hp⟩ k =
  bP (primBin tys hp .lss 3 (some x5) (some (i 8))) fun y1 g1 =>
  k .normal ⟨[(0, x0), (3, x3), (4, x4), (5, x5), (20, y1)], g1⟩ := by kernel_rfl
theorem r12_9a (call : CallK R) (rc : RC R) (x0 x3 x4 x5 x20 : PV) (hp : Hp) (k : Ex → St → Option R) : evC tys e12 r12_9 call rc ⟨[(0, x0), (3, x3), (4, x4), (5, x5), (20, x20)], hp⟩ k =
  bP (primBin tys hp .and 37 (some x3) (some (.v (.int .u32 (.ofNat 1))))) fun y1 g1 =>
  k .normal ⟨[(0, x0), (3, x3), (4, x4), (5, x5), (6, y1)], g1⟩ := by kernel_rfl
theorem r12_10a (call : CallK R) (rc : RC R) (x0 x3 x4 x5 x6 : PV) (hp : Hp) (k : Ex → St → Option R) : evC tys e12 r12_10 call rc ⟨[(0, x0), (3, x3), (4, x4), (5, x5), (6, x6)], hp⟩ k =
  bP (primBin tys hp .shr 37 (some x3) (some (.v (.int .u64 (.ofNat 1))))) fun y1 g1 =>
  k .normal ⟨[(0, x0), (3, y1), (4, x4), (5, x5), (6, x6)], g1⟩ := by kernel_rfl
theorem r12_11a (call : CallK R) (rc : RC R) (x0 x3 x4 x5 x6 : PV) (hp : Hp) (k : Ex → St → Option R) : evC tys e12 r12_11 call rc ⟨[(0, x0), (3, x3), (4, x4), (5, x5), (6, x6)], hp⟩ k =
  bP (primBin tys hp .eql 37 (some x6) (some (.v (.int .u32 (.ofNat 1))))) fun y1 g1 =>
  k .normal ⟨[(0, x0), (3, x3), (4, x4), (5, x5), (28, y1)], g1⟩ := by kernel_rfl
theorem r12_12a (call : CallK R) (rc : RC R) (x0 x3 x4 x5 x28 : PV) (hp : Hp) (k : Ex → St → Option R) : evC tys e12 r12_12 call rc ⟨[(0, x0), (3, x3), (4, x4), (5, x5), (28, x28)], hp⟩ k =
  bP (primBin tys hp .xor 37 (some x3) (some (.v (.int .u32 (.ofNat 2197175160))))) fun y1 g1 =>
  k .normal ⟨[(0, x0), (3, y1), (4, x4), (5, x5)], g1⟩ := by kernel_rfl
theorem r12_8a (call : CallK R) (rc : RC R) (x0 x3 x4 x5 : PV) (hp : Hp) (k : Ex → St → Option R) : evC tys e12 r12_8 call rc ⟨[(0, x0), (3, x3), (4, x4), (5, x5)], hp⟩ k =
  bP (primBin tys hp .add 3 (some x5) (some (i 1))) fun y1 g1 =>
  k .normal ⟨[(0, x0), (3, x3), (4, x4), (5, y1)], g1⟩ := by kernel_rfl
theorem r12_8b (call : CallK R) (rc : RC R) (x0 x3 x4 x5 x28 : PV) (hp : Hp) (k : Ex → St → Option R) : evC tys e12 r12_8 call rc ⟨[(0, x0), (3, x3), (4, x4), (5, x5), (28, x28)], hp⟩ k =
  bP (primBin tys hp .add 3 (some x5) (some (i 1))) fun y1 g1 =>
  k .normal ⟨[(0, x0), (3, x3), (4, x4), (5, y1)], g1⟩ := by kernel_rfl
theorem r12_4a (call : CallK R) (rc : RC R) (x0 x3 x4 x5 x20 : PV) (hp : Hp) (k : Ex → St → Option R) : evC tys e12 r12_4 call rc ⟨[(0, x0), (3, x3), (4, x4), (5, x5), (20, x20)], hp⟩ k =
  bP (primBin tys hp .add 3 (some x4) (some (i 1))) fun y1 g1 =>
  k .normal ⟨[(0, x0), (3, x3), (4, y1)], g1⟩ := by kernel_rfl
theorem r12_13a (call : CallK R) (rc : RC R) (x0 x3 x4 x10 : PV) (hp : Hp) (k : Ex → St → Option R) : evC tys e12 r12_13 call rc ⟨[(0, x0), (3, x3), (4, x4), (10, x10)], hp⟩ k =
  bP (primUn hp .xor (some x3)) fun y1 g1 =>
  k .normal ⟨[(2, y1)], g1⟩ := by kernel_rfl
/-! function 13 -/
noncomputable def c13 : Code := codeOf Tryz.f13
noncomputable def r13_0 : Code := regAt 0 c13
noncomputable def r13_1 : Code := regAt 1 c13
noncomputable def r13_2 : Code := regAt 2 c13
noncomputable def r13_3 : Code := regAt 3 c13
noncomputable def r13_4 : Code := regAt 4 c13
noncomputable def r13_5 : Code := regAt 5 c13
noncomputable def r13_6 : Code := regAt 6 c13
theorem c13_eq : c13 = (.seq r13_0 (.seq (.seq r13_1 (.cond (.tmp 7) (.seq r13_2 .ret) .skip)) (.seq r13_3 (.seq (.seq r13_4 (.cond (.tmp 16) (.seq r13_5 .ret) .skip)) (.seq r13_6 .ret))))) := by kernel_rfl
theorem b13 (rc : RC R) (x0 : PV) (hp : Hp) (k : PV → Hp → Option R) : bodyF tys e13 rc [x0] hp k = rc e13 c13 ⟨[(0, x0)], hp⟩ (endK tys e13.fn k) := by kernel_rfl
theorem z13a (x2 x3 : PV) (hp : Hp) : resOf tys e13.fn ⟨[(2, x2), (3, x3)], hp⟩ = oneR (consO (some x2) (consO (some x3) (some []))) := by kernel_rfl
theorem r13_0a (call : CallK R) (rc : RC R) (x0 : PV) (hp : Hp) (k : Ex → St → Option R) : evC tys e13 r13_0 call rc ⟨[(0, x0)], hp⟩ k =
  k .normal ⟨[(0, x0)], hp⟩ := by kernel_rfl
theorem r13_1a (call : CallK R) (rc : RC R) (x0 : PV) (hp : Hp) (k : Ex → St → Option R) : evC tys e13 r13_1 call rc ⟨[(0, x0)], hp⟩ k =
  bP (primLen tys hp 9 (some x0)) fun y1 g1 =>
  bP (primBin tys g1 .lss 3 (some y1) (some (i 4))) fun y2 g2 =>
  k .normal ⟨[(0, x0), (7, y2)], g2⟩ := by kernel_rfl
theorem r13_2a (call : CallK R) (rc : RC R) (x0 x7 : PV) (hp : Hp) (k : Ex → St → Option R) : evC tys e13 r13_2 call rc ⟨[(0, x0), (7, x7)], hp⟩ k =
  k .normal ⟨[(2, (.v (.string ⟨#[]⟩))), (3, (i 26))], hp⟩ := by kernel_rfl
theorem r13_3a (call : CallK R) (rc : RC R) (x0 x7 : PV) (hp : Hp) (k : Ex → St → Option R) : evC tys e13 r13_3 call rc ⟨[(0, x0), (7, x7)], hp⟩ k =
  bP (primLen tys hp 9 (some x0)) fun y2 g2 =>
  bP (primBin tys g2 .sub 3 (some y2) (some (i 4))) fun y3 g3 =>
  bP (primSlice tys g3 9 (some x0) (some none) (some (some y3)) (some none)) fun y4 g4 =>
  k .normal ⟨[(0, x0), (4, y4)], g4⟩ := by kernel_rfl
theorem r13_4a (call : CallK R) (rc : RC R) (x0 x4 : PV) (hp : Hp) (k : Ex → St → Option R) : evC tys e13 r13_4 call rc ⟨[(0, x0), (4, x4)], hp⟩ k =
  call 33 [x4] hp fun y1 g1 =>
  bP (primBin tys g1 .neq 9 (some y1) (some x0)) fun y3 g3 =>
  k .normal ⟨[(4, x4), (16, y3)], g3⟩ := by kernel_rfl
theorem r13_5a (call : CallK R) (rc : RC R) (x4 x16 : PV) (hp : Hp) (k : Ex → St → Option R) : evC tys e13 r13_5 call rc ⟨[(4, x4), (16, x16)], hp⟩ k =
  k .normal ⟨[(2, (.v (.string ⟨#[]⟩))), (3, (i 25))], hp⟩ := by kernel_rfl
theorem r13_6a (call : CallK R) (rc : RC R) (x4 x16 : PV) (hp : Hp) (k : Ex → St → Option R) : evC tys e13 r13_6 call rc ⟨[(4, x4), (16, x16)], hp⟩ k =
  k .normal ⟨[(2, x4), (3, (i 0))], hp⟩ := by kernel_rfl
/-! function 17 -/
noncomputable def c17 : Code := codeOf Tryz.f17
noncomputable def r17_0 : Code := regAt 0 c17
noncomputable def r17_1 : Code := regAt 1 c17
noncomputable def r17_2 : Code := regAt 2 c17
noncomputable def r17_3 : Code := regAt 3 c17
noncomputable def r17_4 : Code := regAt 4 c17
noncomputable def r17_5 : Code := regAt 5 c17
noncomputable def r17_6 : Code := regAt 6 c17
theorem c17_eq : c17 = (.seq r17_0 (.seq r17_1 (.seq (.seq r17_2 (.cond (.tmp 9) (.seq r17_3 .ret) .skip)) (.seq (.seq r17_4 (.cond (.tmp 15) (.seq r17_5 .ret) .skip)) (.seq r17_6 .ret))))) := by kernel_rfl
theorem b17 (rc : RC R) (x0 : PV) (hp : Hp) (k : PV → Hp → Option R) : bodyF tys e17 rc [x0] hp k = rc e17 c17 ⟨[(0, x0)], hp⟩ (endK tys e17.fn k) := by kernel_rfl
theorem z17a (x2 x3 : PV) (hp : Hp) : resOf tys e17.fn ⟨[(2, x2), (3, x3)], hp⟩ = oneR (consO (some x2) (consO (some x3) (some []))) := by kernel_rfl
theorem r17_0a (call : CallK R) (rc : RC R) (x0 : PV) (hp : Hp) (k : Ex → St → Option R) : evC tys e17 r17_0 call rc ⟨[(0, x0)], hp⟩ k =
  k .normal ⟨[(0, x0)], hp⟩ := by kernel_rfl
theorem r17_1a (call : CallK R) (rc : RC R) (x0 : PV) (hp : Hp) (k : Ex → St → Option R) : evC tys e17 r17_1 call rc ⟨[(0, x0)], hp⟩ k =
  bP (primLen tys hp 9 (some x0)) fun y1 g1 =>
  bP (primBin tys g1 .sub 3 (some y1) (some (i 4))) fun y2 g2 =>
  k .normal ⟨[(0, x0), (4, y2)], g2⟩ := by kernel_rfl
theorem r17_2a (call : CallK R) (rc : RC R) (x0 x4 : PV) (hp : Hp) (k : Ex → St → Option R) : evC tys e17 r17_2 call rc ⟨[(0, x0), (4, x4)], hp⟩ k =
  bP (primBin tys hp .lss 3 (some x4) (some (i 0))) fun y1 g1 =>
  k .normal ⟨[(0, x0), (4, x4), (9, y1)], g1⟩ := by kernel_rfl
theorem r17_3a (call : CallK R) (rc : RC R) (x0 x4 x9 : PV) (hp : Hp) (k : Ex → St → Option R) : evC tys e17 r17_3 call rc ⟨[(0, x0), (4, x4), (9, x9)], hp⟩ k =
  k .normal ⟨[(2, (.v (.string ⟨#[]⟩))), (3, (i 26))], hp⟩ := by kernel_rfl
theorem r17_4a (call : CallK R) (rc : RC R) (x0 x4 x9 : PV) (hp : Hp) (k : Ex → St → Option R) : evC tys e17 r17_4 call rc ⟨[(0, x0), (4, x4), (9, x9)], hp⟩ k =
  bP (primSlice tys hp 9 (some x0) (some none) (some (some x4)) (some none)) fun y2 g2 =>
  call 4 [y2] g2 fun y3 g3 =>
  bP (primBin tys g3 .neq 9 (some y3) (some x0)) fun y5 g5 =>
  k .normal ⟨[(0, x0), (4, x4), (15, y5)], g5⟩ := by kernel_rfl
theorem r17_5a (call : CallK R) (rc : RC R) (x0 x4 x15 : PV) (hp : Hp) (k : Ex → St → Option R) : evC tys e17 r17_5 call rc ⟨[(0, x0), (4, x4), (15, x15)], hp⟩ k =
  k .normal ⟨[(2, (.v (.string ⟨#[]⟩))), (3, (i 25))], hp⟩ := by kernel_rfl
theorem r17_6a (call : CallK R) (rc : RC R) (x0 x4 x15 : PV) (hp : Hp) (k : Ex → St → Option R) : evC tys e17 r17_6 call rc ⟨[(0, x0), (4, x4), (15, x15)], hp⟩ k =
  bP (primSlice tys hp 9 (some x0) (some none) (some (some x4)) (some none)) fun y2 g2 =>
  k .normal ⟨[(2, y2), (3, (i 0))], g2⟩ := by kernel_rfl
/-! function 32 -/
noncomputable def c32 : Code := codeOf Tryz.f32
noncomputable def r32_0 : Code := regAt 0 c32
noncomputable def r32_1 : Code := regAt 1 c32
noncomputable def r32_2 : Code := regAt 2 c32
noncomputable def r32_3 : Code := regAt 3 c32
noncomputable def r32_4 : Code := regAt 4 c32
noncomputable def r32_5 : Code := regAt 5 c32
noncomputable def r32_6 : Code := regAt 6 c32
noncomputable def r32_7 : Code := regAt 7 c32
noncomputable def r32_8 : Code := regAt 8 c32
noncomputable def l32_0 : Code := .loop (.seq r32_4 (.seq (.cond (.tmp 10) .skip (.exit 0)) (.seq (.block 1 (.seq r32_5 r32_6)) r32_7)))
theorem l32_0_eq : l32_0 = .loop (.seq r32_4 (.seq (.cond (.tmp 10) .skip (.exit 0)) (.seq (.block 1 (.seq r32_5 r32_6)) r32_7))) := _root_.id rfl
theorem c32_eq : c32 = (.seq r32_0 (.seq r32_1 (.seq r32_2 (.seq (.seq r32_3 (.block 0 l32_0)) (.seq r32_8 .ret))))) := by kernel_rfl
theorem b32 (rc : RC R) (x0 : PV) (hp : Hp) (k : PV → Hp → Option R) : bodyF tys e32 rc [x0] hp k = rc e32 c32 ⟨[(0, x0)], hp⟩ (endK tys e32.fn k) := by kernel_rfl
theorem z32a (x2 : PV) (hp : Hp) : resOf tys e32.fn ⟨[(2, x2)], hp⟩ = oneR (consO (some x2) (some [])) := by kernel_rfl
theorem r32_0a (call : CallK R) (rc : RC R) (x0 : PV) (hp : Hp) (k : Ex → St → Option R) : evC tys e32 r32_0 call rc ⟨[(0, x0)], hp⟩ k =
  k .normal ⟨[(0, x0)], hp⟩ := by kernel_rfl
theorem r32_1a (call : CallK R) (rc : RC R) (x0 : PV) (hp : Hp) (k : Ex → St → Option R) : evC tys e32 r32_1 call rc ⟨[(0, x0)], hp⟩ k =
  call 53 [] hp fun y0 g0 =>
  bP (primAlloc tys g0 89) fun y1 g1 =>
  bP (primStore tys g1 89 (some y1) (some y0)) fun y2 g2 =>
  k .normal ⟨[(0, x0), (3, y1)], g2⟩ := by kernel_rfl
theorem r32_2a (call : CallK R) (rc : RC R) (x0 x3 : PV) (hp : Hp) (k : Ex → St → Option R) : evC tys e32 r32_2 call rc ⟨[(0, x0), (3, x3)], hp⟩ k =
  k .normal ⟨[(0, x0), (3, x3), (4, (.v (.int .u32 (.ofNat 4294967295))))], hp⟩ := by kernel_rfl
theorem r32_3a (call : CallK R) (rc : RC R) (x0 x3 x4 : PV) (hp : Hp) (k : Ex → St → Option R) : evC tys e32 r32_3 call rc ⟨[(0, x0), (3, x3), (4, x4)], hp⟩ k =
  bP (primLen tys hp 9 (some x0)) fun y1 g1 =>
  k .normal ⟨[(0, x0), (3, x3), (4, x4), (8, y1), (9, (i 0))], g1⟩ := by kernel_rfl
theorem r32_4a (call : CallK R) (rc : RC R) (x0 x3 x4 x8 x9 : PV) (hp : Hp) (k : Ex → St → Option R) : evC tys e32 r32_4 call rc ⟨[(0, x0), (3, x3), (4, x4), (8, x8), (9, x9)], hp⟩ k =
  bP (primBin tys hp .lss 3 (some x9) (some x8)) fun y0 g0 =>
  k .normal ⟨[(0, x0), (3, x3), (4, x4), (8, x8), (9, x9), (10, y0)], g0⟩ := by kernel_rfl
theorem r32_5a (call : CallK R) (rc : RC R) (x0 x3 x4 x8 x9 x10 : PV) (hp : Hp) (k : Ex → St → Option R) : evC tys e32 r32_5 call rc ⟨[(0, x0), (3, x3), (4, x4), (8, x8), (9, x9), (10, x10)], hp⟩ k =
  k .normal ⟨[(0, x0), (3, x3), (4, x4), (5, x9), (8, x8), (9, x9)], hp⟩ := by kernel_rfl
theorem r32_6a (call : CallK R) (rc : RC R) (x0 x3 x4 x5 x8 x9 : PV) (hp : Hp) (k : Ex → St → Option R) : evC tys e32 r32_6 call rc ⟨[(0, x0), (3, x3), (4, x4), (5, x5), (8, x8), (9, x9)], hp⟩ k =
  bP (primBin tys hp .shr 37 (some x4) (some (.v (.int .u64 (.ofNat 8))))) fun y1 g1 =>
  bP (primConv tys g1 37 5 (some x4)) fun y3 g3 =>
  bP (primIndex tys g3 9 (some x0) (some x5)) fun y6 g6 =>
  bP (primBin tys g6 .xor 5 (some y3) (some y6)) fun y7 g7 =>
  bP (primIndexAddr tys g7 89 (some x3) (some y7)) fun y8 g8 =>
  bP (primLoad tys g8 37 (some y8)) fun y9 g9 =>
  bP (primBin tys g9 .xor 37 (some y1) (some y9)) fun y10 g10 =>
  k .normal ⟨[(0, x0), (3, x3), (4, y10), (8, x8), (9, x9)], g10⟩ := by kernel_rfl
theorem r32_7a (call : CallK R) (rc : RC R) (x0 x3 x4 x8 x9 : PV) (hp : Hp) (k : Ex → St → Option R) : evC tys e32 r32_7 call rc ⟨[(0, x0), (3, x3), (4, x4), (8, x8), (9, x9)], hp⟩ k =
  bP (primBin tys hp .add 3 (some x9) (some (i 1))) fun y0 g0 =>
  k .normal ⟨[(0, x0), (3, x3), (4, x4), (8, x8), (9, y0)], g0⟩ := by kernel_rfl
theorem r32_8a (call : CallK R) (rc : RC R) (x0 x3 x4 x8 x9 x10 : PV) (hp : Hp) (k : Ex → St → Option R) : evC tys e32 r32_8 call rc ⟨[(0, x0), (3, x3), (4, x4), (8, x8), (9, x9), (10, x10)], hp⟩ k =
  bP (primUn hp .xor (some x4)) fun y1 g1 =>
  k .normal ⟨[(2, y1)], g1⟩ := by kernel_rfl
/-! function 33 -/
noncomputable def c33 : Code := codeOf Tryz.f33
noncomputable def r33_0 : Code := regAt 0 c33
noncomputable def r33_1 : Code := regAt 1 c33
noncomputable def r33_2 : Code := regAt 2 c33
theorem c33_eq : c33 = (.seq r33_0 (.seq r33_1 (.seq r33_2 .ret))) := by kernel_rfl
theorem b33 (rc : RC R) (x0 : PV) (hp : Hp) (k : PV → Hp → Option R) : bodyF tys e33 rc [x0] hp k = rc e33 c33 ⟨[(0, x0)], hp⟩ (endK tys e33.fn k) := by kernel_rfl
theorem z33a (x2 : PV) (hp : Hp) : resOf tys e33.fn ⟨[(2, x2)], hp⟩ = oneR (consO (some x2) (some [])) := by kernel_rfl
theorem r33_0a (call : CallK R) (rc : RC R) (x0 : PV) (hp : Hp) (k : Ex → St → Option R) : evC tys e33 r33_0 call rc ⟨[(0, x0)], hp⟩ k =
  k .normal ⟨[(0, x0)], hp⟩ := by kernel_rfl
theorem r33_1a (call : CallK R) (rc : RC R) (x0 : PV) (hp : Hp) (k : Ex → St → Option R) : evC tys e33 r33_1 call rc ⟨[(0, x0)], hp⟩ k =
  call 32 [x0] hp fun y1 g1 =>
  k .normal ⟨[(0, x0), (3, y1)], g1⟩ := by kernel_rfl
theorem r33_2a (call : CallK R) (rc : RC R) (x0 x3 : PV) (hp : Hp) (k : Ex → St → Option R) : evC tys e33 r33_2 call rc ⟨[(0, x0), (3, x3)], hp⟩ k =
  bP (primConv tys hp 37 5 (some x3)) fun y2 g2 =>
  bP (primBin tys g2 .shr 37 (some x3) (some (.v (.int .u64 (.ofNat 8))))) fun y4 g4 =>
  bP (primConv tys g4 37 5 (some y4)) fun y5 g5 =>
  bP (primBin tys g5 .shr 37 (some x3) (some (.v (.int .u64 (.ofNat 16))))) fun y7 g7 =>
  bP (primConv tys g7 37 5 (some y7)) fun y8 g8 =>
  bP (primBin tys g8 .shr 37 (some x3) (some (.v (.int .u64 (.ofNat 24))))) fun y10 g10 =>
  bP (primConv tys g10 37 5 (some y10)) fun y11 g11 =>
  bP (primBuildSlice tys g11 40 4 (some [(0, y2), (1, y5), (2, y8), (3, y11)])) fun y12 g12 =>
  bP (primConv tys g12 40 9 (some y12)) fun y13 g13 =>
  bP (primBin tys g13 .add 9 (some x0) (some y13)) fun y14 g14 =>
  k .normal ⟨[(2, y14)], g14⟩ := by kernel_rfl
/-! function 29 -/
noncomputable def c29 : Code := codeOf Tryz.f29
noncomputable def r29_0 : Code := regAt 0 c29
noncomputable def r29_1 : Code := regAt 1 c29
noncomputable def r29_2 : Code := regAt 2 c29
noncomputable def r29_3 : Code := regAt 3 c29
noncomputable def r29_5 : Code := regAt 5 c29
noncomputable def r29_6 : Code := regAt 6 c29
noncomputable def r29_7 : Code := regAt 7 c29
noncomputable def r29_8 : Code := regAt 8 c29
noncomputable def r29_9 : Code := regAt 9 c29
noncomputable def r29_10 : Code := regAt 10 c29
noncomputable def r29_11 : Code := regAt 11 c29
noncomputable def r29_12 : Code := regAt 12 c29
noncomputable def r29_4 : Code := regAt 4 c29
noncomputable def r29_13 : Code := regAt 13 c29
noncomputable def r29_14 : Code := regAt 14 c29
noncomputable def r29_15 : Code := regAt 15 c29
noncomputable def l29_0 : Code := .loop (.seq (.seq r29_3 (.cond (.tmp 7) .skip (.exit 0))) (.seq (.block 1 (.seq r29_5 (.seq (.seq r29_6 (.cond (.tmp 16) (.seq r29_7 .ret) .skip)) (.seq (.seq r29_8 (.cond (.tmp 30) (.seq r29_9 (.seq r29_10 .ret)) .skip)) (.seq r29_11 (.seq r29_12 (.cond (.tmp 42) (.exit 0) .skip))))))) r29_4))
theorem l29_0_eq : l29_0 = .loop (.seq (.seq r29_3 (.cond (.tmp 7) .skip (.exit 0))) (.seq (.block 1 (.seq r29_5 (.seq (.seq r29_6 (.cond (.tmp 16) (.seq r29_7 .ret) .skip)) (.seq (.seq r29_8 (.cond (.tmp 30) (.seq r29_9 (.seq r29_10 .ret)) .skip)) (.seq r29_11 (.seq r29_12 (.cond (.tmp 42) (.exit 0) .skip))))))) r29_4)) := _root_.id rfl
theorem c29_eq : c29 = (.seq r29_0 (.seq r29_1 (.seq (.seq r29_2 (.block 0 l29_0)) (.seq (.seq r29_13 (.cond (.tmp 45) (.seq r29_14 .ret) .skip)) (.seq r29_15 .ret))))) := by kernel_rfl
theorem b29 (rc : RC R) (x0 : PV) (hp : Hp) (k : PV → Hp → Option R) : bodyF tys e29 rc [x0] hp k = rc e29 c29 ⟨[(0, x0)], hp⟩ (endK tys e29.fn k) := by kernel_rfl
theorem z29a (x2 : PV) (hp : Hp) : resOf tys e29.fn ⟨[(2, x2)], hp⟩ = oneR (consO (some x2) (some [])) := by kernel_rfl
theorem r29_0a (call : CallK R) (rc : RC R) (x0 : PV) (hp : Hp) (k : Ex → St → Option R) : evC tys e29 r29_0 call rc ⟨[(0, x0)], hp⟩ k =
  k .normal ⟨[(0, x0)], hp⟩ := by kernel_rfl
theorem r29_1a (call : CallK R) (rc : RC R) (x0 : PV) (hp : Hp) (k : Ex → St → Option R) : evC tys e29 r29_1 call rc ⟨[(0, x0)], hp⟩ k =
  k .normal ⟨[(0, x0), (3, (.v (.int .u64 (.ofNat 0))))], hp⟩ := by kernel_rfl
theorem r29_2a (call : CallK R) (rc : RC R) (x0 x3 : PV) (hp : Hp) (k : Ex → St → Option R) : evC tys e29 r29_2 call rc ⟨[(0, x0), (3, x3)], hp⟩ k =
  k .normal ⟨[(0, x0), (3, x3), (4, (.v (.int .u64 (.ofNat 0))))], hp⟩ := by kernel_rfl
theorem r29_3a (call : CallK R) (rc : RC R) (x0 x3 x4 : PV) (hp : Hp) (k : Ex → St → Option R) : evC tys e29 r29_3 call rc ⟨[(0, x0), (3, x3), (4, x4)], hp⟩ k =
  bP (primBin tys hp .lss 39 (some x4) (some (.v (.int .u64 (.ofNat 10))))) fun y1 g1 =>
  k .normal ⟨[(0, x0), (3, x3), (4, x4), (7, y1)], g1⟩ := by kernel_rfl
theorem r29_5a (call : CallK R) (rc : RC R) (x0 x3 x4 x7 : PV) (hp : Hp) (k : Ex → St → Option R) : evC tys e29 r29_5 call rc ⟨[(0, x0), (3, x3), (4, x4), (7, x7)], hp⟩ k =
  call 50 [x0] hp fun y1 g1 =>
  k .normal ⟨[(0, x0), (3, x3), (4, x4), (5, y1)], g1⟩ := by kernel_rfl
theorem r29_6a (call : CallK R) (rc : RC R) (x0 x3 x4 x5 : PV) (hp : Hp) (k : Ex → St → Option R) : evC tys e29 r29_6 call rc ⟨[(0, x0), (3, x3), (4, x4), (5, x5)], hp⟩ k =
  bP (primNil hp (some x0)) fun y1 g1 =>
  bP (primFieldAddr tys g1 52 2 (some y1)) fun y2 g2 =>
  bP (primLoad tys g2 27 (some y2)) fun y3 g3 =>
  bP (primBin tys g3 .neq 27 (some y3) (some (i 0))) fun y4 g4 =>
  k .normal ⟨[(0, x0), (3, x3), (4, x4), (5, x5), (16, y4)], g4⟩ := by kernel_rfl
theorem r29_7a (call : CallK R) (rc : RC R) (x0 x3 x4 x5 x16 : PV) (hp : Hp) (k : Ex → St → Option R) : evC tys e29 r29_7 call rc ⟨[(0, x0), (3, x3), (4, x4), (5, x5), (16, x16)], hp⟩ k =
  k .normal ⟨[(2, (i 0))], hp⟩ := by kernel_rfl
theorem r29_8a (call : CallK R) (rc : RC R) (x0 x3 x4 x5 x16 : PV) (hp : Hp) (k : Ex → St → Option R) : evC tys e29 r29_8 call rc ⟨[(0, x0), (3, x3), (4, x4), (5, x5), (16, x16)], hp⟩ k =
  bP (primBin tys hp .eql 39 (some x4) (some (.v (.int .u64 (.ofNat 9))))) fun y1 g1 =>
  bW (wantOf true (some y1)) g1 (fun K => K x5 g1) fun y3 g3 =>
  bW (wantOf true (some y1)) g3 (fun K => bP (primBin tys g3 .gtr 5 (some y3) (some (.v (.int .u8 (.ofNat 1))))) K) fun y4 g4 =>
  bP (primPick g4 (some y4) (some (.v (.bool false))) (some y1)) fun y5 g5 =>
  bW (wantOf false (some y5)) g5 (fun K => K x5 g5) fun y7 g7 =>
  bW (wantOf false (some y5)) g7 (fun K => bP (primBin tys g7 .eql 5 (some y7) (some (.v (.int .u8 (.ofNat 0))))) K) fun y8 g8 =>
  bW (wantOf false (some y5)) g8 (fun K => K y8 g8) fun y9 g9 =>
  bW (wantOf true (some y9)) g9 (fun K => K x4 g9) fun y10 g10 =>
  bW (wantOf true (some y9)) g10 (fun K => bP (primBin tys g10 .gtr 39 (some y10) (some (.v (.int .u64 (.ofNat 0))))) K) fun y11 g11 =>
  bW (wantOf false (some y5)) g11 (fun K => bP (primPick g11 (some y11) (some (.v (.bool false))) (some y9)) K) fun y12 g12 =>
  bP (primPick g12 (some (.v (.bool true))) (some y12) (some y5)) fun y13 g13 =>
  k .normal ⟨[(0, x0), (3, x3), (4, x4), (5, x5), (30, y13)], g13⟩ := by kernel_rfl
theorem r29_9a (call : CallK R) (rc : RC R) (x0 x3 x4 x5 x30 : PV) (hp : Hp) (k : Ex → St → Option R) : evC tys e29 r29_9 call rc ⟨[(0, x0), (3, x3), (4, x4), (5, x5), (30, x30)], hp⟩ k =
  call 41 [x0, (i 5)] hp fun y1 g1 =>
  k .normal ⟨[], g1⟩ := by kernel_rfl
theorem r29_10a (call : CallK R) (rc : RC R) (hp : Hp) (k : Ex → St → Option R) : evC tys e29 r29_10 call rc ⟨[], hp⟩ k =
  k .normal ⟨[(2, (i 0))], hp⟩ := by kernel_rfl
theorem r29_11a (call : CallK R) (rc : RC R) (x0 x3 x4 x5 x30 : PV) (hp : Hp) (k : Ex → St → Option R) : evC tys e29 r29_11 call rc ⟨[(0, x0), (3, x3), (4, x4), (5, x5), (30, x30)], hp⟩ k =
  bP (primBin tys hp .rem 5 (some x5) (some (.v (.int .u8 (.ofNat 128))))) fun y2 g2 =>
  bP (primConv tys g2 5 41 (some y2)) fun y3 g3 =>
  bP (primBin tys g3 .mul 39 (some (.v (.int .u64 (.ofNat 7)))) (some x4)) fun y5 g5 =>
  bP (primBin tys g5 .shl 41 (some y3) (some y5)) fun y6 g6 =>
  bP (primBin tys g6 .or 41 (some x3) (some y6)) fun y7 g7 =>
  k .normal ⟨[(0, x0), (3, y7), (4, x4), (5, x5)], g7⟩ := by kernel_rfl
theorem r29_12a (call : CallK R) (rc : RC R) (x0 x3 x4 x5 : PV) (hp : Hp) (k : Ex → St → Option R) : evC tys e29 r29_12 call rc ⟨[(0, x0), (3, x3), (4, x4), (5, x5)], hp⟩ k =
  bP (primBin tys hp .lss 5 (some x5) (some (.v (.int .u8 (.ofNat 128))))) fun y1 g1 =>
  k .normal ⟨[(0, x0), (3, x3), (4, x4), (42, y1)], g1⟩ := by kernel_rfl
theorem r29_4a (call : CallK R) (rc : RC R) (x0 x3 x4 x42 : PV) (hp : Hp) (k : Ex → St → Option R) : evC tys e29 r29_4 call rc ⟨[(0, x0), (3, x3), (4, x4), (42, x42)], hp⟩ k =
  bP (primBin tys hp .add 39 (some x4) (some (.v (.int .u64 (.ofNat 1))))) fun y1 g1 =>
  k .normal ⟨[(0, x0), (3, x3), (4, y1)], g1⟩ := by kernel_rfl
theorem r29_13a (call : CallK R) (rc : RC R) (x0 x3 x4 x7 : PV) (hp : Hp) (k : Ex → St → Option R) : evC tys e29 r29_13 call rc ⟨[(0, x0), (3, x3), (4, x4), (7, x7)], hp⟩ k =
  bP (primBin tys hp .rem 41 (some x3) (some (.v (.int .u64 (.ofNat 2))))) fun y1 g1 =>
  bP (primBin tys g1 .eql 41 (some y1) (some (.v (.int .u64 (.ofNat 1))))) fun y2 g2 =>
  k .normal ⟨[(3, x3), (45, y2)], g2⟩ := by kernel_rfl
theorem r29_13b (call : CallK R) (rc : RC R) (x0 x3 x4 x42 : PV) (hp : Hp) (k : Ex → St → Option R) : evC tys e29 r29_13 call rc ⟨[(0, x0), (3, x3), (4, x4), (42, x42)], hp⟩ k =
  bP (primBin tys hp .rem 41 (some x3) (some (.v (.int .u64 (.ofNat 2))))) fun y1 g1 =>
  bP (primBin tys g1 .eql 41 (some y1) (some (.v (.int .u64 (.ofNat 1))))) fun y2 g2 =>
  k .normal ⟨[(3, x3), (45, y2)], g2⟩ := by kernel_rfl
theorem r29_14a (call : CallK R) (rc : RC R) (x3 x45 : PV) (hp : Hp) (k : Ex → St → Option R) : evC tys e29 r29_14 call rc ⟨[(3, x3), (45, x45)], hp⟩ k =
  bP (primBin tys hp .shr 41 (some x3) (some (.v (.int .u64 (.ofNat 1))))) fun y1 g1 =>
  bP (primUn g1 .xor (some y1)) fun y2 g2 =>
  bP (primConv tys g2 41 2 (some y2)) fun y3 g3 =>
  k .normal ⟨[(2, y3)], g3⟩ := by kernel_rfl
theorem r29_15a (call : CallK R) (rc : RC R) (x3 x45 : PV) (hp : Hp) (k : Ex → St → Option R) : evC tys e29 r29_15 call rc ⟨[(3, x3), (45, x45)], hp⟩ k =
  bP (primBin tys hp .shr 41 (some x3) (some (.v (.int .u64 (.ofNat 1))))) fun y1 g1 =>
  bP (primConv tys g1 41 2 (some y1)) fun y2 g2 =>
  k .normal ⟨[(2, y2)], g2⟩ := by kernel_rfl
/-! function 50 -/
noncomputable def c50 : Code := codeOf Tryz.f50
noncomputable def r50_0 : Code := regAt 0 c50
noncomputable def r50_1 : Code := regAt 1 c50
noncomputable def r50_2 : Code := regAt 2 c50
noncomputable def r50_3 : Code := regAt 3 c50
noncomputable def r50_4 : Code := regAt 4 c50
noncomputable def r50_5 : Code := regAt 5 c50
theorem c50_eq : c50 = (.seq r50_0 (.seq (.seq r50_1 (.cond (.tmp 19) (.seq r50_2 (.seq r50_3 .ret)) .skip)) (.seq r50_4 (.seq r50_5 .ret)))) := by kernel_rfl
theorem b50 (rc : RC R) (x0 : PV) (hp : Hp) (k : PV → Hp → Option R) : bodyF tys e50 rc [x0] hp k = rc e50 c50 ⟨[(0, x0)], hp⟩ (endK tys e50.fn k) := by kernel_rfl
theorem z50a (x2 : PV) (hp : Hp) : resOf tys e50.fn ⟨[(2, x2)], hp⟩ = oneR (consO (some x2) (some [])) := by kernel_rfl
theorem r50_0a (call : CallK R) (rc : RC R) (x0 : PV) (hp : Hp) (k : Ex → St → Option R) : evC tys e50 r50_0 call rc ⟨[(0, x0)], hp⟩ k =
  k .normal ⟨[(0, x0)], hp⟩ := by kernel_rfl
theorem r50_1a (call : CallK R) (rc : RC R) (x0 : PV) (hp : Hp) (k : Ex → St → Option R) : evC tys e50 r50_1 call rc ⟨[(0, x0)], hp⟩ k =
  bP (primNil hp (some x0)) fun y1 g1 =>
  bP (primFieldAddr tys g1 52 2 (some y1)) fun y2 g2 =>
  bP (primLoad tys g2 27 (some y2)) fun y3 g3 =>
  bLg (logLoad tys 3 7 ⟨[], [], []⟩ g2.next y3 (some (27, y2))) fun l3 =>
  bP (primBin tys g3 .neq 27 (some y3) (some (i 0))) fun y4 g4 =>
  bWD (wantOf false (some y4)) g4 (fun K => K x0 g4) fun b6 y6 g6 =>
  bLg (ranL b6 l3 (some l3)) fun l6 =>
  bWD (wantOf false (some y4)) g6 (fun K => bP (primNil g6 (some y6)) K) fun b7 y7 g7 =>
  bLg (ranL b7 l6 (some l6)) fun l7 =>
  bWD (wantOf false (some y4)) g7 (fun K => bP (primFieldAddr tys g7 52 1 (some y7)) K) fun b8 y8 g8 =>
  bLg (ranL b8 l7 (some l7)) fun l8 =>
  bWD (wantOf false (some y4)) g8 (fun K => bP (primLoad tys g8 3 (some y8)) K) fun b9 y9 g9 =>
  bLg (ranL b9 l8 (logLoad tys 9 511 l8 g8.next y9 (some (3, y8)))) fun l9 =>
  bWD (wantOf false (some y4)) g9 (fun K => K x0 g9) fun b10 y10 g10 =>
  bLg (ranL b10 l9 (some l9)) fun l10 =>
  bWD (wantOf false (some y4)) g10 (fun K => bP (primNil g10 (some y10)) K) fun b11 y11 g11 =>
  bLg (ranL b11 l10 (some l10)) fun l11 =>
  bWD (wantOf false (some y4)) g11 (fun K => bP (primFieldAddr tys g11 52 0 (some y11)) K) fun b12 y12 g12 =>
  bLg (ranL b12 l11 (some l11)) fun l12 =>
  bWD (wantOf false (some y4)) g12 (fun K => bP (primLoad tys g12 9 (some y12)) K) fun b13 y13 g13 =>
  bLg (ranL b13 l12 (logLoad tys 13 7231 l12 g12.next y13 (some (9, y12)))) fun l13 =>
  bWD (wantOf false (some y4)) g13 (fun K => bP (primLen tys g13 9 (some y13)) K) fun b14 y14 g14 =>
  bLg (ranL b14 l13 (some l13)) fun l14 =>
  bWD (wantOf false (some y4)) g14 (fun K => bP (primBin tys g14 .geq 3 (some y9) (some y14)) K) fun b15 y15 g15 =>
  bLg (ranL b15 l14 (some l14)) fun l15 =>
  bP (primPick g15 (some (.v (.bool true))) (some y15) (some y4)) fun y16 g16 =>
  k .normal ⟨[(0, x0), (19, y16)], g16⟩ := by kernel_rfl
theorem r50_2a (call : CallK R) (rc : RC R) (x0 x19 : PV) (hp : Hp) (k : Ex → St → Option R) : evC tys e50 r50_2 call rc ⟨[(0, x0), (19, x19)], hp⟩ k =
  call 41 [x0, (i 26)] hp fun y1 g1 =>
  k .normal ⟨[], g1⟩ := by kernel_rfl
theorem r50_3a (call : CallK R) (rc : RC R) (hp : Hp) (k : Ex → St → Option R) : evC tys e50 r50_3 call rc ⟨[], hp⟩ k =
  k .normal ⟨[(2, (.v (.int .u8 (.ofNat 0))))], hp⟩ := by kernel_rfl
theorem r50_4a (call : CallK R) (rc : RC R) (x0 x19 : PV) (hp : Hp) (k : Ex → St → Option R) : evC tys e50 r50_4 call rc ⟨[(0, x0), (19, x19)], hp⟩ k =
  bP (primNil hp (some x0)) fun y1 g1 =>
  bP (primFieldAddr tys g1 52 1 (some y1)) fun y2 g2 =>
  bP (primLoad tys g2 3 (some y2)) fun y3 g3 =>
  bP (primBin tys g3 .add 3 (some y3) (some (i 1))) fun y4 g4 =>
  bP (primNil g4 (some x0)) fun y5 g5 =>
  bP (primFieldAddr tys g5 52 1 (some y5)) fun y6 g6 =>
  bP (primStore tys g6 3 (some y6) (some y4)) fun y7 g7 =>
  k .normal ⟨[(0, x0)], g7⟩ := by kernel_rfl
theorem r50_5a (call : CallK R) (rc : RC R) (x0 : PV) (hp : Hp) (k : Ex → St → Option R) : evC tys e50 r50_5 call rc ⟨[(0, x0)], hp⟩ k =
  bP (primNil hp (some x0)) fun y1 g1 =>
  bP (primFieldAddr tys g1 52 0 (some y1)) fun y2 g2 =>
  bP (primLoad tys g2 9 (some y2)) fun y3 g3 =>
  bLg (logLoad tys 3 7 ⟨[], [], []⟩ g2.next y3 (some (9, y2))) fun l3 =>
  bP (primNil g3 (some x0)) fun y5 g5 =>
  bP (primFieldAddr tys g5 52 1 (some y5)) fun y6 g6 =>
  bP (primLoad tys g6 3 (some y6)) fun y7 g7 =>
  bLg (logLoad tys 7 112 l3 g6.next y7 (some (3, y6))) fun l7 =>
  bP (primBin tys g7 .sub 3 (some y7) (some (i 1))) fun y8 g8 =>
  bP (primIndex tys g8 9 (some y3) (some y8)) fun y9 g9 =>
  k .normal ⟨[(2, y9)], g9⟩ := by kernel_rfl
/-! function 41 -/
noncomputable def c41 : Code := codeOf Tryz.f41
noncomputable def r41_0 : Code := regAt 0 c41
noncomputable def r41_1 : Code := regAt 1 c41
theorem c41_eq : c41 = (.seq r41_0 (.cond (.tmp 8) r41_1 .skip)) := by kernel_rfl
theorem b41 (rc : RC R) (x0 x1 : PV) (hp : Hp) (k : PV → Hp → Option R) : bodyF tys e41 rc [x0, x1] hp k = rc e41 c41 ⟨[(0, x0), (1, x1)], hp⟩ (endK tys e41.fn k) := by kernel_rfl
theorem z41a (hp : Hp) : resOf tys e41.fn ⟨[], hp⟩ = oneR (some []) := by kernel_rfl
theorem z41b (x0 x1 x8 : PV) (hp : Hp) : resOf tys e41.fn ⟨[(0, x0), (1, x1), (8, x8)], hp⟩ = oneR (some []) := by kernel_rfl
theorem r41_0a (call : CallK R) (rc : RC R) (x0 x1 : PV) (hp : Hp) (k : Ex → St → Option R) : evC tys e41 r41_0 call rc ⟨[(0, x0), (1, x1)], hp⟩ k =
  bP (primNil hp (some x0)) fun y1 g1 =>
  bP (primFieldAddr tys g1 52 2 (some y1)) fun y2 g2 =>
  bP (primLoad tys g2 27 (some y2)) fun y3 g3 =>
  bP (primBin tys g3 .eql 27 (some y3) (some (i 0))) fun y4 g4 =>
  k .normal ⟨[(0, x0), (1, x1), (8, y4)], g4⟩ := by kernel_rfl
theorem r41_1a (call : CallK R) (rc : RC R) (x0 x1 x8 : PV) (hp : Hp) (k : Ex → St → Option R) : evC tys e41 r41_1 call rc ⟨[(0, x0), (1, x1), (8, x8)], hp⟩ k =
  bP (primNil hp (some x0)) fun y2 g2 =>
  bP (primFieldAddr tys g2 52 2 (some y2)) fun y3 g3 =>
  bP (primStore tys g3 27 (some y3) (some x1)) fun y4 g4 =>
  k .normal ⟨[], g4⟩ := by kernel_rfl
/-! function 78 -/
noncomputable def c78 : Code := codeOf Tryz.f78
noncomputable def r78_0 : Code := regAt 0 c78
noncomputable def r78_1 : Code := regAt 1 c78
noncomputable def r78_2 : Code := regAt 2 c78
noncomputable def r78_4 : Code := regAt 4 c78
noncomputable def r78_5 : Code := regAt 5 c78
noncomputable def r78_6 : Code := regAt 6 c78
noncomputable def r78_7 : Code := regAt 7 c78
noncomputable def r78_8 : Code := regAt 8 c78
noncomputable def r78_9 : Code := regAt 9 c78
noncomputable def r78_10 : Code := regAt 10 c78
noncomputable def r78_11 : Code := regAt 11 c78
noncomputable def r78_3 : Code := regAt 3 c78
noncomputable def l78_0 : Code := .loop (.seq (.block 1 (.seq r78_4 (.seq (.seq r78_5 (.cond (.tmp 23) r78_6 .skip)) (.seq (.seq r78_7 (.cond (.tmp 30) (.seq r78_8 .ret) .skip)) (.seq r78_9 (.seq r78_10 (.cond (.tmp 39) (.seq r78_11 .ret) .skip))))))) r78_3)
theorem l78_0_eq : l78_0 = .loop (.seq (.block 1 (.seq r78_4 (.seq (.seq r78_5 (.cond (.tmp 23) r78_6 .skip)) (.seq (.seq r78_7 (.cond (.tmp 30) (.seq r78_8 .ret) .skip)) (.seq r78_9 (.seq r78_10 (.cond (.tmp 39) (.seq r78_11 .ret) .skip))))))) r78_3) := _root_.id rfl
theorem c78_eq : c78 = (.seq r78_0 (.seq r78_1 (.seq r78_2 (.block 0 l78_0)))) := by kernel_rfl
theorem b78 (rc : RC R) (x0 : PV) (hp : Hp) (k : PV → Hp → Option R) : bodyF tys e78 rc [x0] hp k = rc e78 c78 ⟨[(0, x0)], hp⟩ (endK tys e78.fn k) := by kernel_rfl
theorem z78a (x2 : PV) (hp : Hp) : resOf tys e78.fn ⟨[(2, x2)], hp⟩ = oneR (consO (some x2) (some [])) := by kernel_rfl
theorem r78_0a (call : CallK R) (rc : RC R) (x0 : PV) (hp : Hp) (k : Ex → St → Option R) : evC tys e78 r78_0 call rc ⟨[(0, x0)], hp⟩ k =
  k .normal ⟨[(0, x0)], hp⟩ := by kernel_rfl
theorem r78_1a (call : CallK R) (rc : RC R) (x0 : PV) (hp : Hp) (k : Ex → St → Option R) : evC tys e78 r78_1 call rc ⟨[(0, x0)], hp⟩ k =
  k .normal ⟨[(0, x0), (3, (.v (.int .u64 (.ofNat 0))))], hp⟩ := by kernel_rfl
theorem r78_2a (call : CallK R) (rc : RC R) (x0 x3 : PV) (hp : Hp) (k : Ex → St → Option R) : evC tys e78 r78_2 call rc ⟨[(0, x0), (3, x3)], hp⟩ k =
  k .normal ⟨[(0, x0), (3, x3), (4, (i 0))], hp⟩ := by kernel_rfl
theorem r78_4a (call : CallK R) (rc : RC R) (x0 x3 x4 : PV) (hp : Hp) (k : Ex → St → Option R) : evC tys e78 r78_4 call rc ⟨[(0, x0), (3, x3), (4, x4)], hp⟩ k =
  call 46 [x0] hp fun y1 g1 =>
  k .normal ⟨[(0, x0), (3, x3), (4, x4), (5, y1)], g1⟩ := by kernel_rfl
theorem r78_5a (call : CallK R) (rc : RC R) (x0 x3 x4 x5 : PV) (hp : Hp) (k : Ex → St → Option R) : evC tys e78 r78_5 call rc ⟨[(0, x0), (3, x3), (4, x4), (5, x5)], hp⟩ k =
  bP (primBin tys hp .eql 3 (some x4) (some (i 63))) fun y1 g1 =>
  bW (wantOf true (some y1)) g1 (fun K => K x5 g1) fun y3 g3 =>
  bW (wantOf true (some y1)) g3 (fun K => bP (primBin tys g3 .gtr 5 (some y3) (some (.v (.int .u8 (.ofNat 1))))) K) fun y4 g4 =>
  bP (primPick g4 (some y4) (some (.v (.bool false))) (some y1)) fun y5 g5 =>
  bW (wantOf false (some y5)) g5 (fun K => K x4 g5) fun y7 g7 =>
  bW (wantOf false (some y5)) g7 (fun K => bP (primBin tys g7 .gtr 3 (some y7) (some (i 0))) K) fun y8 g8 =>
  bW (wantOf false (some y5)) g8 (fun K => K y8 g8) fun y9 g9 =>
  bW (wantOf true (some y9)) g9 (fun K => K x5 g9) fun y10 g10 =>
  bW (wantOf true (some y9)) g10 (fun K => bP (primBin tys g10 .eql 5 (some y10) (some (.v (.int .u8 (.ofNat 0))))) K) fun y11 g11 =>
  bW (wantOf false (some y5)) g11 (fun K => bP (primPick g11 (some y11) (some (.v (.bool false))) (some y9)) K) fun y12 g12 =>
  bP (primPick g12 (some (.v (.bool true))) (some y12) (some y5)) fun y13 g13 =>
  k .normal ⟨[(0, x0), (3, x3), (4, x4), (5, x5), (23, y13)], g13⟩ := by kernel_rfl
theorem r78_6a (call : CallK R) (rc : RC R) (x0 x3 x4 x5 x23 : PV) (hp : Hp) (k : Ex → St → Option R) : evC tys e78 r78_6 call rc ⟨[(0, x0), (3, x3), (4, x4), (5, x5), (23, x23)], hp⟩ k =
  call 35 [x0, (i 5)] hp fun y1 g1 =>
  k .normal ⟨[(0, x0), (3, x3), (4, x4), (5, x5)], g1⟩ := by kernel_rfl
theorem r78_7a (call : CallK R) (rc : RC R) (x0 x3 x4 x5 : PV) (hp : Hp) (k : Ex → St → Option R) : evC tys e78 r78_7 call rc ⟨[(0, x0), (3, x3), (4, x4), (5, x5)], hp⟩ k =
  bP (primNil hp (some x0)) fun y1 g1 =>
  bP (primFieldAddr tys g1 46 2 (some y1)) fun y2 g2 =>
  bP (primLoad tys g2 27 (some y2)) fun y3 g3 =>
  bP (primBin tys g3 .neq 27 (some y3) (some (i 0))) fun y4 g4 =>
  k .normal ⟨[(0, x0), (3, x3), (4, x4), (5, x5), (30, y4)], g4⟩ := by kernel_rfl
theorem r78_7b (call : CallK R) (rc : RC R) (x0 x3 x4 x5 x23 : PV) (hp : Hp) (k : Ex → St → Option R) : evC tys e78 r78_7 call rc ⟨[(0, x0), (3, x3), (4, x4), (5, x5), (23, x23)], hp⟩ k =
  bP (primNil hp (some x0)) fun y1 g1 =>
  bP (primFieldAddr tys g1 46 2 (some y1)) fun y2 g2 =>
  bP (primLoad tys g2 27 (some y2)) fun y3 g3 =>
  bP (primBin tys g3 .neq 27 (some y3) (some (i 0))) fun y4 g4 =>
  k .normal ⟨[(0, x0), (3, x3), (4, x4), (5, x5), (30, y4)], g4⟩ := by kernel_rfl
theorem r78_8a (call : CallK R) (rc : RC R) (x0 x3 x4 x5 x30 : PV) (hp : Hp) (k : Ex → St → Option R) : evC tys e78 r78_8 call rc ⟨[(0, x0), (3, x3), (4, x4), (5, x5), (30, x30)], hp⟩ k =
  k .normal ⟨[(2, (i 0))], hp⟩ := by kernel_rfl
theorem r78_9a (call : CallK R) (rc : RC R) (x0 x3 x4 x5 x30 : PV) (hp : Hp) (k : Ex → St → Option R) : evC tys e78 r78_9 call rc ⟨[(0, x0), (3, x3), (4, x4), (5, x5), (30, x30)], hp⟩ k =
  bP (primBin tys hp .and 5 (some x5) (some (.v (.int .u8 (.ofNat 127))))) fun y2 g2 =>
  bP (primConv tys g2 5 41 (some y2)) fun y3 g3 =>
  bP (primBin tys g3 .shl 41 (some y3) (some x4)) fun y5 g5 =>
  bP (primBin tys g5 .or 41 (some x3) (some y5)) fun y6 g6 =>
  k .normal ⟨[(0, x0), (3, y6), (4, x4), (5, x5)], g6⟩ := by kernel_rfl
theorem r78_10a (call : CallK R) (rc : RC R) (x0 x3 x4 x5 : PV) (hp : Hp) (k : Ex → St → Option R) : evC tys e78 r78_10 call rc ⟨[(0, x0), (3, x3), (4, x4), (5, x5)], hp⟩ k =
  bP (primBin tys hp .lss 5 (some x5) (some (.v (.int .u8 (.ofNat 128))))) fun y1 g1 =>
  k .normal ⟨[(0, x0), (3, x3), (4, x4), (39, y1)], g1⟩ := by kernel_rfl
theorem r78_11a (call : CallK R) (rc : RC R) (x0 x3 x4 x39 : PV) (hp : Hp) (k : Ex → St → Option R) : evC tys e78 r78_11 call rc ⟨[(0, x0), (3, x3), (4, x4), (39, x39)], hp⟩ k =
  bP (primBin tys hp .shr 41 (some x3) (some (.v (.int .u64 (.ofNat 1))))) fun y1 g1 =>
  bP (primConv tys g1 41 2 (some y1)) fun y2 g2 =>
  bP (primBin tys g2 .and 41 (some x3) (some (.v (.int .u64 (.ofNat 1))))) fun y4 g4 =>
  bP (primConv tys g4 41 2 (some y4)) fun y5 g5 =>
  bP (primUn g5 .neg (some y5)) fun y6 g6 =>
  bP (primBin tys g6 .xor 2 (some y2) (some y6)) fun y7 g7 =>
  k .normal ⟨[(2, y7)], g7⟩ := by kernel_rfl
theorem r78_3a (call : CallK R) (rc : RC R) (x0 x3 x4 x39 : PV) (hp : Hp) (k : Ex → St → Option R) : evC tys e78 r78_3 call rc ⟨[(0, x0), (3, x3), (4, x4), (39, x39)], hp⟩ k =
  bP (primBin tys hp .add 3 (some x4) (some (i 7))) fun y1 g1 =>
  k .normal ⟨[(0, x0), (3, x3), (4, y1)], g1⟩ := by kernel_rfl
/-! function 46 -/
noncomputable def c46 : Code := codeOf Tryz.f46
noncomputable def r46_0 : Code := regAt 0 c46
noncomputable def r46_1 : Code := regAt 1 c46
noncomputable def r46_2 : Code := regAt 2 c46
noncomputable def r46_3 : Code := regAt 3 c46
noncomputable def r46_4 : Code := regAt 4 c46
noncomputable def r46_5 : Code := regAt 5 c46
theorem c46_eq : c46 = (.seq r46_0 (.seq (.seq r46_1 (.cond (.tmp 19) (.seq r46_2 (.seq r46_3 .ret)) .skip)) (.seq r46_4 (.seq r46_5 .ret)))) := by kernel_rfl
theorem b46 (rc : RC R) (x0 : PV) (hp : Hp) (k : PV → Hp → Option R) : bodyF tys e46 rc [x0] hp k = rc e46 c46 ⟨[(0, x0)], hp⟩ (endK tys e46.fn k) := by kernel_rfl
theorem z46a (x2 : PV) (hp : Hp) : resOf tys e46.fn ⟨[(2, x2)], hp⟩ = oneR (consO (some x2) (some [])) := by kernel_rfl
theorem r46_0a (call : CallK R) (rc : RC R) (x0 : PV) (hp : Hp) (k : Ex → St → Option R) : evC tys e46 r46_0 call rc ⟨[(0, x0)], hp⟩ k =
  k .normal ⟨[(0, x0)], hp⟩ := by kernel_rfl
theorem r46_1a (call : CallK R) (rc : RC R) (x0 : PV) (hp : Hp) (k : Ex → St → Option R) : evC tys e46 r46_1 call rc ⟨[(0, x0)], hp⟩ k =
  bP (primNil hp (some x0)) fun y1 g1 =>
  bP (primFieldAddr tys g1 46 2 (some y1)) fun y2 g2 =>
  bP (primLoad tys g2 27 (some y2)) fun y3 g3 =>
  bLg (logLoad tys 3 7 ⟨[], [], []⟩ g2.next y3 (some (27, y2))) fun l3 =>
  bP (primBin tys g3 .neq 27 (some y3) (some (i 0))) fun y4 g4 =>
  bWD (wantOf false (some y4)) g4 (fun K => K x0 g4) fun b6 y6 g6 =>
  bLg (ranL b6 l3 (some l3)) fun l6 =>
  bWD (wantOf false (some y4)) g6 (fun K => bP (primNil g6 (some y6)) K) fun b7 y7 g7 =>
  bLg (ranL b7 l6 (some l6)) fun l7 =>
  bWD (wantOf false (some y4)) g7 (fun K => bP (primFieldAddr tys g7 46 1 (some y7)) K) fun b8 y8 g8 =>
  bLg (ranL b8 l7 (some l7)) fun l8 =>
  bWD (wantOf false (some y4)) g8 (fun K => bP (primLoad tys g8 3 (some y8)) K) fun b9 y9 g9 =>
  bLg (ranL b9 l8 (logLoad tys 9 511 l8 g8.next y9 (some (3, y8)))) fun l9 =>
  bWD (wantOf false (some y4)) g9 (fun K => K x0 g9) fun b10 y10 g10 =>
  bLg (ranL b10 l9 (some l9)) fun l10 =>
  bWD (wantOf false (some y4)) g10 (fun K => bP (primNil g10 (some y10)) K) fun b11 y11 g11 =>
  bLg (ranL b11 l10 (some l10)) fun l11 =>
  bWD (wantOf false (some y4)) g11 (fun K => bP (primFieldAddr tys g11 46 0 (some y11)) K) fun b12 y12 g12 =>
  bLg (ranL b12 l11 (some l11)) fun l12 =>
  bWD (wantOf false (some y4)) g12 (fun K => bP (primLoad tys g12 9 (some y12)) K) fun b13 y13 g13 =>
  bLg (ranL b13 l12 (logLoad tys 13 7231 l12 g12.next y13 (some (9, y12)))) fun l13 =>
  bWD (wantOf false (some y4)) g13 (fun K => bP (primLen tys g13 9 (some y13)) K) fun b14 y14 g14 =>
  bLg (ranL b14 l13 (some l13)) fun l14 =>
  bWD (wantOf false (some y4)) g14 (fun K => bP (primBin tys g14 .geq 3 (some y9) (some y14)) K) fun b15 y15 g15 =>
  bLg (ranL b15 l14 (some l14)) fun l15 =>
  bP (primPick g15 (some (.v (.bool true))) (some y15) (some y4)) fun y16 g16 =>
  k .normal ⟨[(0, x0), (19, y16)], g16⟩ := by kernel_rfl
theorem r46_2a (call : CallK R) (rc : RC R) (x0 x19 : PV) (hp : Hp) (k : Ex → St → Option R) : evC tys e46 r46_2 call rc ⟨[(0, x0), (19, x19)], hp⟩ k =
  call 35 [x0, (i 26)] hp fun y1 g1 =>
  k .normal ⟨[], g1⟩ := by kernel_rfl
theorem r46_3a (call : CallK R) (rc : RC R) (hp : Hp) (k : Ex → St → Option R) : evC tys e46 r46_3 call rc ⟨[], hp⟩ k =
  k .normal ⟨[(2, (.v (.int .u8 (.ofNat 0))))], hp⟩ := by kernel_rfl
theorem r46_4a (call : CallK R) (rc : RC R) (x0 x19 : PV) (hp : Hp) (k : Ex → St → Option R) : evC tys e46 r46_4 call rc ⟨[(0, x0), (19, x19)], hp⟩ k =
  bP (primNil hp (some x0)) fun y1 g1 =>
  bP (primFieldAddr tys g1 46 1 (some y1)) fun y2 g2 =>
  bP (primLoad tys g2 3 (some y2)) fun y3 g3 =>
  bP (primBin tys g3 .add 3 (some y3) (some (i 1))) fun y4 g4 =>
  bP (primNil g4 (some x0)) fun y5 g5 =>
  bP (primFieldAddr tys g5 46 1 (some y5)) fun y6 g6 =>
  bP (primStore tys g6 3 (some y6) (some y4)) fun y7 g7 =>
  k .normal ⟨[(0, x0)], g7⟩ := by kernel_rfl
theorem r46_5a (call : CallK R) (rc : RC R) (x0 : PV) (hp : Hp) (k : Ex → St → Option R) : evC tys e46 r46_5 call rc ⟨[(0, x0)], hp⟩ k =
  bP (primNil hp (some x0)) fun y1 g1 =>
  bP (primFieldAddr tys g1 46 0 (some y1)) fun y2 g2 =>
  bP (primLoad tys g2 9 (some y2)) fun y3 g3 =>
  bLg (logLoad tys 3 7 ⟨[], [], []⟩ g2.next y3 (some (9, y2))) fun l3 =>
  bP (primNil g3 (some x0)) fun y5 g5 =>
  bP (primFieldAddr tys g5 46 1 (some y5)) fun y6 g6 =>
  bP (primLoad tys g6 3 (some y6)) fun y7 g7 =>
  bLg (logLoad tys 7 112 l3 g6.next y7 (some (3, y6))) fun l7 =>
  bP (primBin tys g7 .sub 3 (some y7) (some (i 1))) fun y8 g8 =>
  bP (primIndex tys g8 9 (some y3) (some y8)) fun y9 g9 =>
  k .normal ⟨[(2, y9)], g9⟩ := by kernel_rfl
/-! function 35 -/
noncomputable def c35 : Code := codeOf Tryz.f35
noncomputable def r35_0 : Code := regAt 0 c35
noncomputable def r35_1 : Code := regAt 1 c35
theorem c35_eq : c35 = (.seq r35_0 (.cond (.tmp 8) r35_1 .skip)) := by kernel_rfl
theorem b35 (rc : RC R) (x0 x1 : PV) (hp : Hp) (k : PV → Hp → Option R) : bodyF tys e35 rc [x0, x1] hp k = rc e35 c35 ⟨[(0, x0), (1, x1)], hp⟩ (endK tys e35.fn k) := by kernel_rfl
theorem z35a (hp : Hp) : resOf tys e35.fn ⟨[], hp⟩ = oneR (some []) := by kernel_rfl
theorem z35b (x0 x1 x8 : PV) (hp : Hp) : resOf tys e35.fn ⟨[(0, x0), (1, x1), (8, x8)], hp⟩ = oneR (some []) := by kernel_rfl
theorem r35_0a (call : CallK R) (rc : RC R) (x0 x1 : PV) (hp : Hp) (k : Ex → St → Option R) : evC tys e35 r35_0 call rc ⟨[(0, x0), (1, x1)], hp⟩ k =
  bP (primNil hp (some x0)) fun y1 g1 =>
  bP (primFieldAddr tys g1 46 2 (some y1)) fun y2 g2 =>
  bP (primLoad tys g2 27 (some y2)) fun y3 g3 =>
  bP (primBin tys g3 .eql 27 (some y3) (some (i 0))) fun y4 g4 =>
  k .normal ⟨[(0, x0), (1, x1), (8, y4)], g4⟩ := by kernel_rfl
theorem r35_1a (call : CallK R) (rc : RC R) (x0 x1 x8 : PV) (hp : Hp) (k : Ex → St → Option R) : evC tys e35 r35_1 call rc ⟨[(0, x0), (1, x1), (8, x8)], hp⟩ k =
  bP (primNil hp (some x0)) fun y2 g2 =>
  bP (primFieldAddr tys g2 46 2 (some y2)) fun y3 g3 =>
  bP (primStore tys g3 27 (some y3) (some x1)) fun y4 g4 =>
  k .normal ⟨[], g4⟩ := by kernel_rfl
/-! function 8 -/
noncomputable def c8 : Code := codeOf Tryz.f8
noncomputable def r8_0 : Code := regAt 0 c8
noncomputable def r8_1 : Code := regAt 1 c8
noncomputable def r8_2 : Code := regAt 2 c8
noncomputable def r8_3 : Code := regAt 3 c8
noncomputable def r8_4 : Code := regAt 4 c8
noncomputable def r8_5 : Code := regAt 5 c8
noncomputable def r8_6 : Code := regAt 6 c8
noncomputable def r8_7 : Code := regAt 7 c8
noncomputable def r8_8 : Code := regAt 8 c8
noncomputable def r8_9 : Code := regAt 9 c8
theorem c8_eq : c8 = (.seq r8_0 (.seq r8_1 (.seq (.seq r8_2 (.cond (.tmp 15) (.seq r8_3 .ret) .skip)) (.seq r8_4 (.seq r8_5 (.seq (.seq r8_6 (.seq r8_7 (.cond (.tmp 37) (.seq r8_8 .ret) .skip))) (.seq r8_9 .ret))))))) := by kernel_rfl
theorem b8 (rc : RC R) (x0 : PV) (hp : Hp) (k : PV → Hp → Option R) : bodyF tys e8 rc [x0] hp k = rc e8 c8 ⟨[(0, x0)], hp⟩ (endK tys e8.fn k) := by kernel_rfl
theorem z8a (x2 x3 : PV) (hp : Hp) : resOf tys e8.fn ⟨[(2, x2), (3, x3)], hp⟩ = oneR (consO (loadAt tys hp 32 x2) (consO (some x3) (some []))) := by kernel_rfl
theorem r8_0a (call : CallK R) (rc : RC R) (x0 : PV) (hp : Hp) (k : Ex → St → Option R) : evC tys e8 r8_0 call rc ⟨[(0, x0)], hp⟩ k =
  bP (primAlloc tys hp 32) fun y0 g0 =>
  k .normal ⟨[(0, x0), (2, y0)], g0⟩ := by kernel_rfl
theorem r8_1a (call : CallK R) (rc : RC R) (x0 x2 : PV) (hp : Hp) (k : Ex → St → Option R) : evC tys e8 r8_1 call rc ⟨[(0, x0), (2, x2)], hp⟩ k =
  call 13 [x0] hp fun y1 g1 =>
  bP (primExtract g1 0 (some y1)) fun y3 g3 =>
  bP (primExtract g3 1 (some y1)) fun y4 g4 =>
  k .normal ⟨[(2, x2), (4, y3), (5, y4)], g4⟩ := by kernel_rfl
theorem r8_2a (call : CallK R) (rc : RC R) (x2 x4 x5 : PV) (hp : Hp) (k : Ex → St → Option R) : evC tys e8 r8_2 call rc ⟨[(2, x2), (4, x4), (5, x5)], hp⟩ k =
  bP (primBin tys hp .neq 27 (some x5) (some (i 0))) fun y1 g1 =>
  k .normal ⟨[(2, x2), (4, x4), (5, x5), (15, y1)], g1⟩ := by kernel_rfl
theorem r8_3a (call : CallK R) (rc : RC R) (x2 x4 x5 x15 : PV) (hp : Hp) (k : Ex → St → Option R) : evC tys e8 r8_3 call rc ⟨[(2, x2), (4, x4), (5, x5), (15, x15)], hp⟩ k =
  bP (primBuild tys hp 32 (some [])) fun y0 g0 =>
  bP (primStore tys g0 32 (some x2) (some y0)) fun y2 g2 =>
  k .normal ⟨[(2, x2), (3, x5)], g2⟩ := by kernel_rfl
theorem r8_4a (call : CallK R) (rc : RC R) (x2 x4 x5 x15 : PV) (hp : Hp) (k : Ex → St → Option R) : evC tys e8 r8_4 call rc ⟨[(2, x2), (4, x4), (5, x5), (15, x15)], hp⟩ k =
  bP (primBuild tys hp 46 (some [(0, x4)])) fun y1 g1 =>
  bP (primBox tys g1 46 (some y1)) fun y2 g2 =>
  k .normal ⟨[(2, x2), (6, y2)], g2⟩ := by kernel_rfl
theorem r8_5a (call : CallK R) (rc : RC R) (x2 x6 : PV) (hp : Hp) (k : Ex → St → Option R) : evC tys e8 r8_5 call rc ⟨[(2, x2), (6, x6)], hp⟩ k =
  call 21 [x6] hp fun y1 g1 =>
  call 22 [x6, (.bnd 23 [x6])] g1 fun y5 g5 =>
  call 24 [x6, (.bnd 25 [x6])] g5 fun y9 g9 =>
  call 14 [x6] g9 fun y11 g11 =>
  bP (primBuild tys g11 32 (some [(0, y1), (1, y5), (2, y9), (3, y11)])) fun y12 g12 =>
  bP (primAlloc tys g12 32) fun y13 g13 =>
  bP (primStore tys g13 32 (some y13) (some y12)) fun y14 g14 =>
  k .normal ⟨[(2, x2), (6, x6), (7, y13)], g14⟩ := by kernel_rfl
theorem r8_6a (call : CallK R) (rc : RC R) (x2 x6 x7 : PV) (hp : Hp) (k : Ex → St → Option R) : evC tys e8 r8_6 call rc ⟨[(2, x2), (6, x6), (7, x7)], hp⟩ k =
  call 15 [x6] hp fun y1 g1 =>
  k .normal ⟨[(2, x2), (7, x7), (8, y1)], g1⟩ := by kernel_rfl
theorem r8_7a (call : CallK R) (rc : RC R) (x2 x7 x8 : PV) (hp : Hp) (k : Ex → St → Option R) : evC tys e8 r8_7 call rc ⟨[(2, x2), (7, x7), (8, x8)], hp⟩ k =
  bP (primBin tys hp .neq 27 (some x8) (some (i 0))) fun y1 g1 =>
  k .normal ⟨[(2, x2), (7, x7), (8, x8), (37, y1)], g1⟩ := by kernel_rfl
theorem r8_8a (call : CallK R) (rc : RC R) (x2 x7 x8 x37 : PV) (hp : Hp) (k : Ex → St → Option R) : evC tys e8 r8_8 call rc ⟨[(2, x2), (7, x7), (8, x8), (37, x37)], hp⟩ k =
  bP (primBuild tys hp 32 (some [])) fun y0 g0 =>
  bP (primStore tys g0 32 (some x2) (some y0)) fun y2 g2 =>
  k .normal ⟨[(2, x2), (3, x8)], g2⟩ := by kernel_rfl
theorem r8_9a (call : CallK R) (rc : RC R) (x2 x7 x8 x37 : PV) (hp : Hp) (k : Ex → St → Option R) : evC tys e8 r8_9 call rc ⟨[(2, x2), (7, x7), (8, x8), (37, x37)], hp⟩ k =
  bP (primLoad tys hp 32 (some x7)) fun y0 g0 =>
  bP (primStore tys g0 32 (some x2) (some y0)) fun y1 g1 =>
  k .normal ⟨[(2, x2), (3, (i 0))], g1⟩ := by kernel_rfl
/-! function 9 -/
noncomputable def c9 : Code := codeOf Tryz.f9
noncomputable def r9_0 : Code := regAt 0 c9
noncomputable def r9_1 : Code := regAt 1 c9
noncomputable def r9_2 : Code := regAt 2 c9
noncomputable def r9_3 : Code := regAt 3 c9
noncomputable def r9_4 : Code := regAt 4 c9
noncomputable def r9_5 : Code := regAt 5 c9
noncomputable def r9_6 : Code := regAt 6 c9
noncomputable def r9_7 : Code := regAt 7 c9
noncomputable def r9_8 : Code := regAt 8 c9
noncomputable def r9_10 : Code := regAt 10 c9
noncomputable def r9_11 : Code := regAt 11 c9
noncomputable def r9_12 : Code := regAt 12 c9
noncomputable def r9_13 : Code := regAt 13 c9
noncomputable def r9_14 : Code := regAt 14 c9
noncomputable def r9_9 : Code := regAt 9 c9
noncomputable def r9_15 : Code := regAt 15 c9
noncomputable def r9_16 : Code := regAt 16 c9
noncomputable def r9_17 : Code := regAt 17 c9
noncomputable def r9_18 : Code := regAt 18 c9
noncomputable def r9_19 : Code := regAt 19 c9
noncomputable def l9_0 : Code := .loop (.seq (.seq r9_8 (.cond (.tmp 38) .skip (.exit 0))) (.seq (.block 1 (.seq r9_10 (.seq r9_11 (.seq r9_12 (.seq r9_13 r9_14))))) r9_9))
theorem l9_0_eq : l9_0 = .loop (.seq (.seq r9_8 (.cond (.tmp 38) .skip (.exit 0))) (.seq (.block 1 (.seq r9_10 (.seq r9_11 (.seq r9_12 (.seq r9_13 r9_14))))) r9_9)) := _root_.id rfl
theorem c9_eq : c9 = (.seq r9_0 (.seq r9_1 (.seq (.seq r9_2 (.cond (.tmp 16) (.seq r9_3 .ret) .skip)) (.seq r9_4 (.seq r9_5 (.seq r9_6 (.seq (.seq r9_7 (.block 0 l9_0)) (.seq r9_15 (.seq r9_16 (.seq (.seq r9_17 (.cond (.tmp 68) (.seq r9_18 .ret) .skip)) (.seq r9_19 .ret))))))))))) := by kernel_rfl
theorem b9 (rc : RC R) (x0 : PV) (hp : Hp) (k : PV → Hp → Option R) : bodyF tys e9 rc [x0] hp k = rc e9 c9 ⟨[(0, x0)], hp⟩ (endK tys e9.fn k) := by kernel_rfl
theorem z9a (x2 x3 : PV) (hp : Hp) : resOf tys e9.fn ⟨[(2, x2), (3, x3)], hp⟩ = oneR (consO (loadAt tys hp 32 x2) (consO (some x3) (some []))) := by kernel_rfl
theorem r9_0a (call : CallK R) (rc : RC R) (x0 : PV) (hp : Hp) (k : Ex → St → Option R) : evC tys e9 r9_0 call rc ⟨[(0, x0)], hp⟩ k =
  bP (primAlloc tys hp 32) fun y0 g0 =>
  k .normal ⟨[(0, x0), (2, y0)], g0⟩ := by kernel_rfl
theorem r9_1a (call : CallK R) (rc : RC R) (x0 x2 : PV) (hp : Hp) (k : Ex → St → Option R) : evC tys e9 r9_1 call rc ⟨[(0, x0), (2, x2)], hp⟩ k =
  call 17 [x0] hp fun y1 g1 =>
  bP (primExtract g1 0 (some y1)) fun y3 g3 =>
  bP (primExtract g3 1 (some y1)) fun y4 g4 =>
  k .normal ⟨[(2, x2), (4, y3), (5, y4)], g4⟩ := by kernel_rfl
theorem r9_2a (call : CallK R) (rc : RC R) (x2 x4 x5 : PV) (hp : Hp) (k : Ex → St → Option R) : evC tys e9 r9_2 call rc ⟨[(2, x2), (4, x4), (5, x5)], hp⟩ k =
  bP (primBin tys hp .neq 27 (some x5) (some (i 0))) fun y1 g1 =>
  k .normal ⟨[(2, x2), (4, x4), (5, x5), (16, y1)], g1⟩ := by kernel_rfl
theorem r9_3a (call : CallK R) (rc : RC R) (x2 x4 x5 x16 : PV) (hp : Hp) (k : Ex → St → Option R) : evC tys e9 r9_3 call rc ⟨[(2, x2), (4, x4), (5, x5), (16, x16)], hp⟩ k =
  bP (primBuild tys hp 32 (some [])) fun y0 g0 =>
  bP (primStore tys g0 32 (some x2) (some y0)) fun y2 g2 =>
  k .normal ⟨[(2, x2), (3, x5)], g2⟩ := by kernel_rfl
theorem r9_4a (call : CallK R) (rc : RC R) (x2 x4 x5 x16 : PV) (hp : Hp) (k : Ex → St → Option R) : evC tys e9 r9_4 call rc ⟨[(2, x2), (4, x4), (5, x5), (16, x16)], hp⟩ k =
  bP (primBuild tys hp 52 (some [(0, x4)])) fun y1 g1 =>
  bP (primBox tys g1 52 (some y1)) fun y2 g2 =>
  k .normal ⟨[(2, x2), (6, y2)], g2⟩ := by kernel_rfl
theorem r9_5a (call : CallK R) (rc : RC R) (x2 x6 : PV) (hp : Hp) (k : Ex → St → Option R) : evC tys e9 r9_5 call rc ⟨[(2, x2), (6, x6)], hp⟩ k =
  call 26 [x6] hp fun y1 g1 =>
  bP (primBuild tys g1 32 (some [(0, y1)])) fun y2 g2 =>
  bP (primAlloc tys g2 32) fun y3 g3 =>
  bP (primStore tys g3 32 (some y3) (some y2)) fun y4 g4 =>
  k .normal ⟨[(2, x2), (6, x6), (7, y3)], g4⟩ := by kernel_rfl
theorem r9_6a (call : CallK R) (rc : RC R) (x2 x6 x7 : PV) (hp : Hp) (k : Ex → St → Option R) : evC tys e9 r9_6 call rc ⟨[(2, x2), (6, x6), (7, x7)], hp⟩ k =
  call 27 [x6] hp fun y1 g1 =>
  bP (primFieldAddr tys g1 32 1 (some x7)) fun y2 g2 =>
  bP (primStore tys g2 24 (some y2) (some y1)) fun y3 g3 =>
  k .normal ⟨[(2, x2), (6, x6), (7, x7)], g3⟩ := by kernel_rfl
theorem r9_7a (call : CallK R) (rc : RC R) (x2 x6 x7 : PV) (hp : Hp) (k : Ex → St → Option R) : evC tys e9 r9_7 call rc ⟨[(2, x2), (6, x6), (7, x7)], hp⟩ k =
  call 28 [x6] hp fun y1 g1 =>
  k .normal ⟨[(2, x2), (6, x6), (7, x7), (8, y1)], g1⟩ := by kernel_rfl
theorem r9_8a (call : CallK R) (rc : RC R) (x2 x6 x7 x8 : PV) (hp : Hp) (k : Ex → St → Option R) : evC tys e9 r9_8 call rc ⟨[(2, x2), (6, x6), (7, x7), (8, x8)], hp⟩ k =
  bP (primBin tys hp .gtr 3 (some x8) (some (i 0))) fun y1 g1 =>
  bW (wantOf true (some y1)) g1 (fun K => K x6 g1) fun y3 g3 =>
  bW (wantOf true (some y1)) g3 (fun K => bP (primNil g3 (some y3)) K) fun y4 g4 =>
  bW (wantOf true (some y1)) g4 (fun K => bP (primFieldAddr tys g4 52 2 (some y4)) K) fun y5 g5 =>
  bW (wantOf true (some y1)) g5 (fun K => bP (primLoad tys g5 27 (some y5)) K) fun y6 g6 =>
  bW (wantOf true (some y1)) g6 (fun K => bP (primBin tys g6 .eql 27 (some y6) (some (i 0))) K) fun y7 g7 =>
  bP (primPick g7 (some y7) (some (.v (.bool false))) (some y1)) fun y8 g8 =>
  k .normal ⟨[(2, x2), (6, x6), (7, x7), (8, x8), (38, y8)], g8⟩ := by kernel_rfl
theorem r9_10a (call : CallK R) (rc : RC R) (x2 x6 x7 x8 x38 : PV) (hp : Hp) (k : Ex → St → Option R) : evC tys e9 r9_10 call rc ⟨[(2, x2), (6, x6), (7, x7), (8, x8), (38, x38)], hp⟩ k =
  call 29 [x6] hp fun y1 g1 =>
  bP (primBuild tys g1 64 (some [(0, y1)])) fun y2 g2 =>
  bP (primAlloc tys g2 64) fun y3 g3 =>
  bP (primStore tys g3 64 (some y3) (some y2)) fun y4 g4 =>
  k .normal ⟨[(2, x2), (6, x6), (7, x7), (8, x8), (9, y3)], g4⟩ := by kernel_rfl
theorem r9_11a (call : CallK R) (rc : RC R) (x2 x6 x7 x8 x9 : PV) (hp : Hp) (k : Ex → St → Option R) : evC tys e9 r9_11 call rc ⟨[(2, x2), (6, x6), (7, x7), (8, x8), (9, x9)], hp⟩ k =
  call 29 [x6] hp fun y1 g1 =>
  bP (primFieldAddr tys g1 64 1 (some x9)) fun y2 g2 =>
  bP (primStore tys g2 3 (some y2) (some y1)) fun y3 g3 =>
  k .normal ⟨[(2, x2), (6, x6), (7, x7), (8, x8), (9, x9)], g3⟩ := by kernel_rfl
theorem r9_12a (call : CallK R) (rc : RC R) (x2 x6 x7 x8 x9 : PV) (hp : Hp) (k : Ex → St → Option R) : evC tys e9 r9_12 call rc ⟨[(2, x2), (6, x6), (7, x7), (8, x8), (9, x9)], hp⟩ k =
  call 30 [x6] hp fun y1 g1 =>
  bP (primFieldAddr tys g1 64 2 (some x9)) fun y2 g2 =>
  bP (primStore tys g2 58 (some y2) (some y1)) fun y3 g3 =>
  k .normal ⟨[(2, x2), (6, x6), (7, x7), (8, x8), (9, x9)], g3⟩ := by kernel_rfl
theorem r9_13a (call : CallK R) (rc : RC R) (x2 x6 x7 x8 x9 : PV) (hp : Hp) (k : Ex → St → Option R) : evC tys e9 r9_13 call rc ⟨[(2, x2), (6, x6), (7, x7), (8, x8), (9, x9)], hp⟩ k =
  call 30 [x6] hp fun y1 g1 =>
  bP (primFieldAddr tys g1 64 3 (some x9)) fun y2 g2 =>
  bP (primStore tys g2 58 (some y2) (some y1)) fun y3 g3 =>
  k .normal ⟨[(2, x2), (6, x6), (7, x7), (8, x8), (9, x9)], g3⟩ := by kernel_rfl
theorem r9_14a (call : CallK R) (rc : RC R) (x2 x6 x7 x8 x9 : PV) (hp : Hp) (k : Ex → St → Option R) : evC tys e9 r9_14 call rc ⟨[(2, x2), (6, x6), (7, x7), (8, x8), (9, x9)], hp⟩ k =
  bP (primFieldAddr tys hp 32 2 (some x7)) fun y0 g0 =>
  bP (primLoad tys g0 30 (some y0)) fun y1 g1 =>
  bP (primLoad tys g1 64 (some x9)) fun y2 g2 =>
  bP (primBuildSlice tys g2 30 1 (some [(0, y2)])) fun y3 g3 =>
  bP (prim2 (app tys 30 g3) (some y1) (some y3)) fun y4 g4 =>
  bP (primFieldAddr tys g4 32 2 (some x7)) fun y5 g5 =>
  bP (primStore tys g5 30 (some y5) (some y4)) fun y6 g6 =>
  k .normal ⟨[(2, x2), (6, x6), (7, x7), (8, x8)], g6⟩ := by kernel_rfl
theorem r9_9a (call : CallK R) (rc : RC R) (x2 x6 x7 x8 : PV) (hp : Hp) (k : Ex → St → Option R) : evC tys e9 r9_9 call rc ⟨[(2, x2), (6, x6), (7, x7), (8, x8)], hp⟩ k =
  bP (primBin tys hp .sub 3 (some x8) (some (i 1))) fun y1 g1 =>
  k .normal ⟨[(2, x2), (6, x6), (7, x7), (8, y1)], g1⟩ := by kernel_rfl
theorem r9_15a (call : CallK R) (rc : RC R) (x2 x6 x7 x8 x38 : PV) (hp : Hp) (k : Ex → St → Option R) : evC tys e9 r9_15 call rc ⟨[(2, x2), (6, x6), (7, x7), (8, x8), (38, x38)], hp⟩ k =
  call 18 [x6] hp fun y1 g1 =>
  bP (primFieldAddr tys g1 32 3 (some x7)) fun y2 g2 =>
  bP (primStore tys g2 26 (some y2) (some y1)) fun y3 g3 =>
  k .normal ⟨[(2, x2), (6, x6), (7, x7)], g3⟩ := by kernel_rfl
theorem r9_16a (call : CallK R) (rc : RC R) (x2 x6 x7 : PV) (hp : Hp) (k : Ex → St → Option R) : evC tys e9 r9_16 call rc ⟨[(2, x2), (6, x6), (7, x7)], hp⟩ k =
  call 19 [x6] hp fun y1 g1 =>
  k .normal ⟨[(2, x2), (6, x6), (7, x7)], g1⟩ := by kernel_rfl
theorem r9_17a (call : CallK R) (rc : RC R) (x2 x6 x7 : PV) (hp : Hp) (k : Ex → St → Option R) : evC tys e9 r9_17 call rc ⟨[(2, x2), (6, x6), (7, x7)], hp⟩ k =
  bP (primNil hp (some x6)) fun y1 g1 =>
  bP (primFieldAddr tys g1 52 2 (some y1)) fun y2 g2 =>
  bP (primLoad tys g2 27 (some y2)) fun y3 g3 =>
  bP (primBin tys g3 .neq 27 (some y3) (some (i 0))) fun y4 g4 =>
  k .normal ⟨[(2, x2), (6, x6), (7, x7), (68, y4)], g4⟩ := by kernel_rfl
theorem r9_18a (call : CallK R) (rc : RC R) (x2 x6 x7 x68 : PV) (hp : Hp) (k : Ex → St → Option R) : evC tys e9 r9_18 call rc ⟨[(2, x2), (6, x6), (7, x7), (68, x68)], hp⟩ k =
  bP (primBuild tys hp 32 (some [])) fun y0 g0 =>
  bP (primNil g0 (some x6)) fun y2 g2 =>
  bP (primFieldAddr tys g2 52 2 (some y2)) fun y3 g3 =>
  bP (primLoad tys g3 27 (some y3)) fun y4 g4 =>
  bLg (logLoad tys 4 14 ⟨[], [], []⟩ g3.next y4 (some (27, y3))) fun l4 =>
  bP (primStore tys g4 32 (some x2) (some y0)) fun y5 g5 =>
  bLg (logEff tys 5 1 l4 g4 g5) fun l5 =>
  k .normal ⟨[(2, x2), (3, y4)], g5⟩ := by kernel_rfl
theorem r9_19a (call : CallK R) (rc : RC R) (x2 x6 x7 x68 : PV) (hp : Hp) (k : Ex → St → Option R) : evC tys e9 r9_19 call rc ⟨[(2, x2), (6, x6), (7, x7), (68, x68)], hp⟩ k =
  bP (primLoad tys hp 32 (some x7)) fun y0 g0 =>
  bP (primStore tys g0 32 (some x2) (some y0)) fun y1 g1 =>
  k .normal ⟨[(2, x2), (3, (i 0))], g1⟩ := by kernel_rfl
/-! function 22 -/
noncomputable def c22 : Code := codeOf Tryz.f22
noncomputable def r22_0 : Code := regAt 0 c22
noncomputable def r22_1 : Code := regAt 1 c22
noncomputable def r22_2 : Code := regAt 2 c22
noncomputable def r22_3 : Code := regAt 3 c22
noncomputable def r22_5 : Code := regAt 5 c22
noncomputable def r22_4 : Code := regAt 4 c22
noncomputable def r22_6 : Code := regAt 6 c22
noncomputable def l22_0 : Code := .loop (.seq (.seq r22_3 (.cond (.tmp 17) .skip (.exit 0))) (.seq (.block 1 r22_5) r22_4))
theorem l22_0_eq : l22_0 = .loop (.seq (.seq r22_3 (.cond (.tmp 17) .skip (.exit 0))) (.seq (.block 1 r22_5) r22_4)) := _root_.id rfl
theorem c22_eq : c22 = (.seq r22_0 (.seq r22_1 (.seq (.seq r22_2 (.block 0 l22_0)) (.seq r22_6 .ret)))) := by kernel_rfl
theorem b22 (rc : RC R) (x0 x1 : PV) (hp : Hp) (k : PV → Hp → Option R) : bodyF tys e22 rc [x0, x1] hp k = rc e22 c22 ⟨[(0, x0), (1, x1)], hp⟩ (endK tys e22.fn k) := by kernel_rfl
theorem z22a (x4 : PV) (hp : Hp) : resOf tys e22.fn ⟨[(4, x4)], hp⟩ = oneR (consO (some x4) (some [])) := by kernel_rfl
theorem r22_0a (call : CallK R) (rc : RC R) (x0 x1 : PV) (hp : Hp) (k : Ex → St → Option R) : evC tys e22 r22_0 call rc ⟨[(0, x0), (1, x1)], hp⟩ k =
  k .normal ⟨[(0, x0), (1, x1)], hp⟩ := by kernel_rfl
theorem r22_1a (call : CallK R) (rc : RC R) (x0 x1 : PV) (hp : Hp) (k : Ex → St → Option R) : evC tys e22 r22_1 call rc ⟨[(0, x0), (1, x1)], hp⟩ k =
  k .normal ⟨[(0, x0), (1, x1), (5, nl)], hp⟩ := by kernel_rfl
theorem r22_2a (call : CallK R) (rc : RC R) (x0 x1 x5 : PV) (hp : Hp) (k : Ex → St → Option R) : evC tys e22 r22_2 call rc ⟨[(0, x0), (1, x1), (5, x5)], hp⟩ k =
  call 47 [x0] hp fun y1 g1 =>
  k .normal ⟨[(0, x0), (1, x1), (5, x5), (6, y1)], g1⟩ := by kernel_rfl
theorem r22_3a (call : CallK R) (rc : RC R) (x0 x1 x5 x6 : PV) (hp : Hp) (k : Ex → St → Option R) : evC tys e22 r22_3 call rc ⟨[(0, x0), (1, x1), (5, x5), (6, x6)], hp⟩ k =
  bP (primBin tys hp .gtr 3 (some x6) (some (i 0))) fun y1 g1 =>
  bW (wantOf true (some y1)) g1 (fun K => K x0 g1) fun y3 g3 =>
  bW (wantOf true (some y1)) g3 (fun K => bP (primNil g3 (some y3)) K) fun y4 g4 =>
  bW (wantOf true (some y1)) g4 (fun K => bP (primFieldAddr tys g4 46 2 (some y4)) K) fun y5 g5 =>
  bW (wantOf true (some y1)) g5 (fun K => bP (primLoad tys g5 27 (some y5)) K) fun y6 g6 =>
  bW (wantOf true (some y1)) g6 (fun K => bP (primBin tys g6 .eql 27 (some y6) (some (i 0))) K) fun y7 g7 =>
  bP (primPick g7 (some y7) (some (.v (.bool false))) (some y1)) fun y8 g8 =>
  k .normal ⟨[(0, x0), (1, x1), (5, x5), (6, x6), (17, y8)], g8⟩ := by kernel_rfl
theorem r22_5a (call : CallK R) (rc : RC R) (x0 x1 x5 x6 x17 : PV) (hp : Hp) (k : Ex → St → Option R) : evC tys e22 r22_5 call rc ⟨[(0, x0), (1, x1), (5, x5), (6, x6), (17, x17)], hp⟩ k =
  bE (entersOf (some x1) (some [])) call hp fun y2 g2 =>
  bP (primBuildSlice tys g2 24 1 (some [(0, y2)])) fun y3 g3 =>
  bP (prim2 (app tys 24 g3) (some x5) (some y3)) fun y4 g4 =>
  k .normal ⟨[(0, x0), (1, x1), (5, y4), (6, x6)], g4⟩ := by kernel_rfl
theorem r22_4a (call : CallK R) (rc : RC R) (x0 x1 x5 x6 : PV) (hp : Hp) (k : Ex → St → Option R) : evC tys e22 r22_4 call rc ⟨[(0, x0), (1, x1), (5, x5), (6, x6)], hp⟩ k =
  bP (primBin tys hp .sub 3 (some x6) (some (i 1))) fun y1 g1 =>
  k .normal ⟨[(0, x0), (1, x1), (5, x5), (6, y1)], g1⟩ := by kernel_rfl
theorem r22_6a (call : CallK R) (rc : RC R) (x0 x1 x5 x6 x17 : PV) (hp : Hp) (k : Ex → St → Option R) : evC tys e22 r22_6 call rc ⟨[(0, x0), (1, x1), (5, x5), (6, x6), (17, x17)], hp⟩ k =
  k .normal ⟨[(4, x5)], hp⟩ := by kernel_rfl
/-! function 27 -/
noncomputable def c27 : Code := codeOf Tryz.f27
noncomputable def r27_0 : Code := regAt 0 c27
noncomputable def r27_1 : Code := regAt 1 c27
noncomputable def r27_2 : Code := regAt 2 c27
noncomputable def r27_3 : Code := regAt 3 c27
noncomputable def r27_5 : Code := regAt 5 c27
noncomputable def r27_6 : Code := regAt 6 c27
noncomputable def r27_7 : Code := regAt 7 c27
noncomputable def r27_8 : Code := regAt 8 c27
noncomputable def r27_9 : Code := regAt 9 c27
noncomputable def r27_4 : Code := regAt 4 c27
noncomputable def r27_10 : Code := regAt 10 c27
noncomputable def l27_0 : Code := .loop (.seq (.seq r27_3 (.cond (.tmp 16) .skip (.exit 0))) (.seq (.block 1 (.seq r27_5 (.seq r27_6 (.seq r27_7 (.seq r27_8 r27_9))))) r27_4))
theorem l27_0_eq : l27_0 = .loop (.seq (.seq r27_3 (.cond (.tmp 16) .skip (.exit 0))) (.seq (.block 1 (.seq r27_5 (.seq r27_6 (.seq r27_7 (.seq r27_8 r27_9))))) r27_4)) := _root_.id rfl
theorem c27_eq : c27 = (.seq r27_0 (.seq r27_1 (.seq (.seq r27_2 (.block 0 l27_0)) (.seq r27_10 .ret)))) := by kernel_rfl
theorem b27 (rc : RC R) (x0 : PV) (hp : Hp) (k : PV → Hp → Option R) : bodyF tys e27 rc [x0] hp k = rc e27 c27 ⟨[(0, x0)], hp⟩ (endK tys e27.fn k) := by kernel_rfl
theorem z27a (x2 : PV) (hp : Hp) : resOf tys e27.fn ⟨[(2, x2)], hp⟩ = oneR (consO (some x2) (some [])) := by kernel_rfl
theorem r27_0a (call : CallK R) (rc : RC R) (x0 : PV) (hp : Hp) (k : Ex → St → Option R) : evC tys e27 r27_0 call rc ⟨[(0, x0)], hp⟩ k =
  k .normal ⟨[(0, x0)], hp⟩ := by kernel_rfl
theorem r27_1a (call : CallK R) (rc : RC R) (x0 : PV) (hp : Hp) (k : Ex → St → Option R) : evC tys e27 r27_1 call rc ⟨[(0, x0)], hp⟩ k =
  k .normal ⟨[(0, x0), (3, nl)], hp⟩ := by kernel_rfl
theorem r27_2a (call : CallK R) (rc : RC R) (x0 x3 : PV) (hp : Hp) (k : Ex → St → Option R) : evC tys e27 r27_2 call rc ⟨[(0, x0), (3, x3)], hp⟩ k =
  call 28 [x0] hp fun y1 g1 =>
  k .normal ⟨[(0, x0), (3, x3), (4, y1)], g1⟩ := by kernel_rfl
theorem r27_3a (call : CallK R) (rc : RC R) (x0 x3 x4 : PV) (hp : Hp) (k : Ex → St → Option R) : evC tys e27 r27_3 call rc ⟨[(0, x0), (3, x3), (4, x4)], hp⟩ k =
  bP (primBin tys hp .gtr 3 (some x4) (some (i 0))) fun y1 g1 =>
  bW (wantOf true (some y1)) g1 (fun K => K x0 g1) fun y3 g3 =>
  bW (wantOf true (some y1)) g3 (fun K => bP (primNil g3 (some y3)) K) fun y4 g4 =>
  bW (wantOf true (some y1)) g4 (fun K => bP (primFieldAddr tys g4 52 2 (some y4)) K) fun y5 g5 =>
  bW (wantOf true (some y1)) g5 (fun K => bP (primLoad tys g5 27 (some y5)) K) fun y6 g6 =>
  bW (wantOf true (some y1)) g6 (fun K => bP (primBin tys g6 .eql 27 (some y6) (some (i 0))) K) fun y7 g7 =>
  bP (primPick g7 (some y7) (some (.v (.bool false))) (some y1)) fun y8 g8 =>
  k .normal ⟨[(0, x0), (3, x3), (4, x4), (16, y8)], g8⟩ := by kernel_rfl
theorem r27_5a (call : CallK R) (rc : RC R) (x0 x3 x4 x16 : PV) (hp : Hp) (k : Ex → St → Option R) : evC tys e27 r27_5 call rc ⟨[(0, x0), (3, x3), (4, x4), (16, x16)], hp⟩ k =
  bP (primAlloc tys hp 60) fun y0 g0 =>
  k .normal ⟨[(0, x0), (3, x3), (4, x4), (5, y0)], g0⟩ := by kernel_rfl
theorem r27_6a (call : CallK R) (rc : RC R) (x0 x3 x4 x5 : PV) (hp : Hp) (k : Ex → St → Option R) : evC tys e27 r27_6 call rc ⟨[(0, x0), (3, x3), (4, x4), (5, x5)], hp⟩ k =
  call 40 [x0] hp fun y1 g1 =>
  bP (primFieldAddr tys g1 60 0 (some x5)) fun y2 g2 =>
  bP (primFieldAddr tys g2 55 0 (some y2)) fun y3 g3 =>
  bP (primStore tys g3 9 (some y3) (some y1)) fun y4 g4 =>
  k .normal ⟨[(0, x0), (3, x3), (4, x4), (5, x5)], g4⟩ := by kernel_rfl
theorem r27_7a (call : CallK R) (rc : RC R) (x0 x3 x4 x5 : PV) (hp : Hp) (k : Ex → St → Option R) : evC tys e27 r27_7 call rc ⟨[(0, x0), (3, x3), (4, x4), (5, x5)], hp⟩ k =
  call 29 [x0] hp fun y1 g1 =>
  bP (primFieldAddr tys g1 60 0 (some x5)) fun y2 g2 =>
  bP (primFieldAddr tys g2 55 1 (some y2)) fun y3 g3 =>
  bP (primStore tys g3 3 (some y3) (some y1)) fun y4 g4 =>
  k .normal ⟨[(0, x0), (3, x3), (4, x4), (5, x5)], g4⟩ := by kernel_rfl
theorem r27_8a (call : CallK R) (rc : RC R) (x0 x3 x4 x5 : PV) (hp : Hp) (k : Ex → St → Option R) : evC tys e27 r27_8 call rc ⟨[(0, x0), (3, x3), (4, x4), (5, x5)], hp⟩ k =
  call 30 [x0] hp fun y1 g1 =>
  bP (primFieldAddr tys g1 60 1 (some x5)) fun y2 g2 =>
  bP (primStore tys g2 58 (some y2) (some y1)) fun y3 g3 =>
  k .normal ⟨[(0, x0), (3, x3), (4, x4), (5, x5)], g3⟩ := by kernel_rfl
theorem r27_9a (call : CallK R) (rc : RC R) (x0 x3 x4 x5 : PV) (hp : Hp) (k : Ex → St → Option R) : evC tys e27 r27_9 call rc ⟨[(0, x0), (3, x3), (4, x4), (5, x5)], hp⟩ k =
  bP (primLoad tys hp 60 (some x5)) fun y1 g1 =>
  bP (primBuildSlice tys g1 24 1 (some [(0, y1)])) fun y2 g2 =>
  bP (prim2 (app tys 24 g2) (some x3) (some y2)) fun y3 g3 =>
  k .normal ⟨[(0, x0), (3, y3), (4, x4)], g3⟩ := by kernel_rfl
theorem r27_4a (call : CallK R) (rc : RC R) (x0 x3 x4 : PV) (hp : Hp) (k : Ex → St → Option R) : evC tys e27 r27_4 call rc ⟨[(0, x0), (3, x3), (4, x4)], hp⟩ k =
  bP (primBin tys hp .sub 3 (some x4) (some (i 1))) fun y1 g1 =>
  k .normal ⟨[(0, x0), (3, x3), (4, y1)], g1⟩ := by kernel_rfl
theorem r27_10a (call : CallK R) (rc : RC R) (x0 x3 x4 x16 : PV) (hp : Hp) (k : Ex → St → Option R) : evC tys e27 r27_10 call rc ⟨[(0, x0), (3, x3), (4, x4), (16, x16)], hp⟩ k =
  k .normal ⟨[(2, x3)], hp⟩ := by kernel_rfl
/-! function 47 -/
noncomputable def c47 : Code := codeOf Tryz.f47
noncomputable def r47_0 : Code := regAt 0 c47
noncomputable def r47_1 : Code := regAt 1 c47
noncomputable def r47_2 : Code := regAt 2 c47
noncomputable def r47_3 : Code := regAt 3 c47
noncomputable def r47_4 : Code := regAt 4 c47
noncomputable def r47_5 : Code := regAt 5 c47
noncomputable def r47_6 : Code := regAt 6 c47
theorem c47_eq : c47 = (.seq r47_0 (.seq r47_1 (.seq (.seq r47_2 (.cond (.tmp 7) r47_3 .skip)) (.seq (.seq r47_4 (.cond (.tmp 14) (.seq r47_5 .ret) .skip)) (.seq r47_6 .ret))))) := by kernel_rfl
theorem b47 (rc : RC R) (x0 : PV) (hp : Hp) (k : PV → Hp → Option R) : bodyF tys e47 rc [x0] hp k = rc e47 c47 ⟨[(0, x0)], hp⟩ (endK tys e47.fn k) := by kernel_rfl
theorem z47a (x2 : PV) (hp : Hp) : resOf tys e47.fn ⟨[(2, x2)], hp⟩ = oneR (consO (some x2) (some [])) := by kernel_rfl
theorem r47_0a (call : CallK R) (rc : RC R) (x0 : PV) (hp : Hp) (k : Ex → St → Option R) : evC tys e47 r47_0 call rc ⟨[(0, x0)], hp⟩ k =
  k .normal ⟨[(0, x0)], hp⟩ := by kernel_rfl
theorem r47_1a (call : CallK R) (rc : RC R) (x0 : PV) (hp : Hp) (k : Ex → St → Option R) : evC tys e47 r47_1 call rc ⟨[(0, x0)], hp⟩ k =
  call 48 [x0] hp fun y1 g1 =>
  k .normal ⟨[(0, x0), (3, y1)], g1⟩ := by kernel_rfl
theorem r47_2a (call : CallK R) (rc : RC R) (x0 x3 : PV) (hp : Hp) (k : Ex → St → Option R) : evC tys e47 r47_2 call rc ⟨[(0, x0), (3, x3)], hp⟩ k =
  bP (primBin tys hp .lss 3 (some x3) (some (i 0))) fun y1 g1 =>
  k .normal ⟨[(0, x0), (3, x3), (7, y1)], g1⟩ := by kernel_rfl
theorem r47_3a (call : CallK R) (rc : RC R) (x0 x3 x7 : PV) (hp : Hp) (k : Ex → St → Option R) : evC tys e47 r47_3 call rc ⟨[(0, x0), (3, x3), (7, x7)], hp⟩ k =
  call 35 [x0, (i 5)] hp fun y1 g1 =>
  k .normal ⟨[(0, x0), (3, x3)], g1⟩ := by kernel_rfl
theorem r47_4a (call : CallK R) (rc : RC R) (x0 x3 : PV) (hp : Hp) (k : Ex → St → Option R) : evC tys e47 r47_4 call rc ⟨[(0, x0), (3, x3)], hp⟩ k =
  bP (primNil hp (some x0)) fun y1 g1 =>
  bP (primFieldAddr tys g1 46 2 (some y1)) fun y2 g2 =>
  bP (primLoad tys g2 27 (some y2)) fun y3 g3 =>
  bP (primBin tys g3 .neq 27 (some y3) (some (i 0))) fun y4 g4 =>
  k .normal ⟨[(3, x3), (14, y4)], g4⟩ := by kernel_rfl
theorem r47_4b (call : CallK R) (rc : RC R) (x0 x3 x7 : PV) (hp : Hp) (k : Ex → St → Option R) : evC tys e47 r47_4 call rc ⟨[(0, x0), (3, x3), (7, x7)], hp⟩ k =
  bP (primNil hp (some x0)) fun y1 g1 =>
  bP (primFieldAddr tys g1 46 2 (some y1)) fun y2 g2 =>
  bP (primLoad tys g2 27 (some y2)) fun y3 g3 =>
  bP (primBin tys g3 .neq 27 (some y3) (some (i 0))) fun y4 g4 =>
  k .normal ⟨[(3, x3), (14, y4)], g4⟩ := by kernel_rfl
theorem r47_5a (call : CallK R) (rc : RC R) (x3 x14 : PV) (hp : Hp) (k : Ex → St → Option R) : evC tys e47 r47_5 call rc ⟨[(3, x3), (14, x14)], hp⟩ k =
  k .normal ⟨[(2, (i 0))], hp⟩ := by kernel_rfl
theorem r47_6a (call : CallK R) (rc : RC R) (x3 x14 : PV) (hp : Hp) (k : Ex → St → Option R) : evC tys e47 r47_6 call rc ⟨[(3, x3), (14, x14)], hp⟩ k =
  k .normal ⟨[(2, x3)], hp⟩ := by kernel_rfl
/-! function 48 -/
noncomputable def c48 : Code := codeOf Tryz.f48
noncomputable def r48_0 : Code := regAt 0 c48
noncomputable def r48_1 : Code := regAt 1 c48
theorem c48_eq : c48 = (.seq r48_0 (.seq r48_1 .ret)) := by kernel_rfl
theorem b48 (rc : RC R) (x0 : PV) (hp : Hp) (k : PV → Hp → Option R) : bodyF tys e48 rc [x0] hp k = rc e48 c48 ⟨[(0, x0)], hp⟩ (endK tys e48.fn k) := by kernel_rfl
theorem z48a (x2 : PV) (hp : Hp) : resOf tys e48.fn ⟨[(2, x2)], hp⟩ = oneR (consO (some x2) (some [])) := by kernel_rfl
theorem r48_0a (call : CallK R) (rc : RC R) (x0 : PV) (hp : Hp) (k : Ex → St → Option R) : evC tys e48 r48_0 call rc ⟨[(0, x0)], hp⟩ k =
  k .normal ⟨[(0, x0)], hp⟩ := by kernel_rfl
theorem r48_1a (call : CallK R) (rc : RC R) (x0 : PV) (hp : Hp) (k : Ex → St → Option R) : evC tys e48 r48_1 call rc ⟨[(0, x0)], hp⟩ k =
  call 78 [x0] hp fun y1 g1 =>
  k .normal ⟨[(2, y1)], g1⟩ := by kernel_rfl
/-! function 28 -/
noncomputable def c28 : Code := codeOf Tryz.f28
noncomputable def r28_0 : Code := regAt 0 c28
noncomputable def r28_1 : Code := regAt 1 c28
noncomputable def r28_2 : Code := regAt 2 c28
noncomputable def r28_3 : Code := regAt 3 c28
noncomputable def r28_4 : Code := regAt 4 c28
noncomputable def r28_5 : Code := regAt 5 c28
noncomputable def r28_6 : Code := regAt 6 c28
theorem c28_eq : c28 = (.seq r28_0 (.seq r28_1 (.seq (.seq r28_2 (.cond (.tmp 7) r28_3 .skip)) (.seq (.seq r28_4 (.cond (.tmp 14) (.seq r28_5 .ret) .skip)) (.seq r28_6 .ret))))) := by kernel_rfl
theorem b28 (rc : RC R) (x0 : PV) (hp : Hp) (k : PV → Hp → Option R) : bodyF tys e28 rc [x0] hp k = rc e28 c28 ⟨[(0, x0)], hp⟩ (endK tys e28.fn k) := by kernel_rfl
theorem z28a (x2 : PV) (hp : Hp) : resOf tys e28.fn ⟨[(2, x2)], hp⟩ = oneR (consO (some x2) (some [])) := by kernel_rfl
theorem r28_0a (call : CallK R) (rc : RC R) (x0 : PV) (hp : Hp) (k : Ex → St → Option R) : evC tys e28 r28_0 call rc ⟨[(0, x0)], hp⟩ k =
  k .normal ⟨[(0, x0)], hp⟩ := by kernel_rfl
theorem r28_1a (call : CallK R) (rc : RC R) (x0 : PV) (hp : Hp) (k : Ex → St → Option R) : evC tys e28 r28_1 call rc ⟨[(0, x0)], hp⟩ k =
  call 29 [x0] hp fun y1 g1 =>
  k .normal ⟨[(0, x0), (3, y1)], g1⟩ := by kernel_rfl
theorem r28_2a (call : CallK R) (rc : RC R) (x0 x3 : PV) (hp : Hp) (k : Ex → St → Option R) : evC tys e28 r28_2 call rc ⟨[(0, x0), (3, x3)], hp⟩ k =
  bP (primBin tys hp .lss 2 (some x3) (some (i 0))) fun y1 g1 =>
  k .normal ⟨[(0, x0), (3, x3), (7, y1)], g1⟩ := by kernel_rfl
theorem r28_3a (call : CallK R) (rc : RC R) (x0 x3 x7 : PV) (hp : Hp) (k : Ex → St → Option R) : evC tys e28 r28_3 call rc ⟨[(0, x0), (3, x3), (7, x7)], hp⟩ k =
  call 41 [x0, (i 5)] hp fun y1 g1 =>
  k .normal ⟨[(0, x0), (3, x3)], g1⟩ := by kernel_rfl
theorem r28_4a (call : CallK R) (rc : RC R) (x0 x3 : PV) (hp : Hp) (k : Ex → St → Option R) : evC tys e28 r28_4 call rc ⟨[(0, x0), (3, x3)], hp⟩ k =
  bP (primNil hp (some x0)) fun y1 g1 =>
  bP (primFieldAddr tys g1 52 2 (some y1)) fun y2 g2 =>
  bP (primLoad tys g2 27 (some y2)) fun y3 g3 =>
  bP (primBin tys g3 .neq 27 (some y3) (some (i 0))) fun y4 g4 =>
  k .normal ⟨[(3, x3), (14, y4)], g4⟩ := by kernel_rfl
theorem r28_4b (call : CallK R) (rc : RC R) (x0 x3 x7 : PV) (hp : Hp) (k : Ex → St → Option R) : evC tys e28 r28_4 call rc ⟨[(0, x0), (3, x3), (7, x7)], hp⟩ k =
  bP (primNil hp (some x0)) fun y1 g1 =>
  bP (primFieldAddr tys g1 52 2 (some y1)) fun y2 g2 =>
  bP (primLoad tys g2 27 (some y2)) fun y3 g3 =>
  bP (primBin tys g3 .neq 27 (some y3) (some (i 0))) fun y4 g4 =>
  k .normal ⟨[(3, x3), (14, y4)], g4⟩ := by kernel_rfl
theorem r28_5a (call : CallK R) (rc : RC R) (x3 x14 : PV) (hp : Hp) (k : Ex → St → Option R) : evC tys e28 r28_5 call rc ⟨[(3, x3), (14, x14)], hp⟩ k =
  k .normal ⟨[(2, (i 0))], hp⟩ := by kernel_rfl
theorem r28_6a (call : CallK R) (rc : RC R) (x3 x14 : PV) (hp : Hp) (k : Ex → St → Option R) : evC tys e28 r28_6 call rc ⟨[(3, x3), (14, x14)], hp⟩ k =
  k .normal ⟨[(2, x3)], hp⟩ := by kernel_rfl
/-! function 6 -/
noncomputable def c6 : Code := codeOf Tryz.f6
noncomputable def r6_0 : Code := regAt 0 c6
noncomputable def r6_1 : Code := regAt 1 c6
noncomputable def r6_2 : Code := regAt 2 c6
noncomputable def r6_3 : Code := regAt 3 c6
noncomputable def r6_4 : Code := regAt 4 c6
noncomputable def r6_5 : Code := regAt 5 c6
noncomputable def r6_6 : Code := regAt 6 c6
noncomputable def r6_7 : Code := regAt 7 c6
noncomputable def r6_8 : Code := regAt 8 c6
noncomputable def r6_9 : Code := regAt 9 c6
noncomputable def r6_10 : Code := regAt 10 c6
noncomputable def r6_11 : Code := regAt 11 c6
theorem c6_eq : c6 = (.seq r6_0 (.seq r6_1 (.seq (.seq r6_2 (.cond (.tmp 15) (.seq r6_3 .ret) .skip)) (.seq r6_4 (.seq r6_5 (.seq (.seq r6_6 (.seq r6_7 (.cond (.tmp 26) (.seq r6_8 .ret) .skip))) (.seq (.seq r6_9 (.cond (.tmp 31) (.seq r6_10 .ret) .skip)) (.seq r6_11 .ret)))))))) := by kernel_rfl
theorem b6 (rc : RC R) (x0 : PV) (hp : Hp) (k : PV → Hp → Option R) : bodyF tys e6 rc [x0] hp k = rc e6 c6 ⟨[(0, x0)], hp⟩ (endK tys e6.fn k) := by kernel_rfl
theorem z6a (x2 x3 : PV) (hp : Hp) : resOf tys e6.fn ⟨[(2, x2), (3, x3)], hp⟩ = oneR (consO (loadAt tys hp 26 x2) (consO (some x3) (some []))) := by kernel_rfl
theorem r6_0a (call : CallK R) (rc : RC R) (x0 : PV) (hp : Hp) (k : Ex → St → Option R) : evC tys e6 r6_0 call rc ⟨[(0, x0)], hp⟩ k =
  bP (primAlloc tys hp 26) fun y0 g0 =>
  k .normal ⟨[(0, x0), (2, y0)], g0⟩ := by kernel_rfl
theorem r6_1a (call : CallK R) (rc : RC R) (x0 x2 : PV) (hp : Hp) (k : Ex → St → Option R) : evC tys e6 r6_1 call rc ⟨[(0, x0), (2, x2)], hp⟩ k =
  call 13 [x0] hp fun y1 g1 =>
  bP (primExtract g1 0 (some y1)) fun y3 g3 =>
  bP (primExtract g3 1 (some y1)) fun y4 g4 =>
  k .normal ⟨[(2, x2), (4, y3), (5, y4)], g4⟩ := by kernel_rfl
theorem r6_2a (call : CallK R) (rc : RC R) (x2 x4 x5 : PV) (hp : Hp) (k : Ex → St → Option R) : evC tys e6 r6_2 call rc ⟨[(2, x2), (4, x4), (5, x5)], hp⟩ k =
  bP (primBin tys hp .neq 27 (some x5) (some (i 0))) fun y1 g1 =>
  k .normal ⟨[(2, x2), (4, x4), (5, x5), (15, y1)], g1⟩ := by kernel_rfl
theorem r6_3a (call : CallK R) (rc : RC R) (x2 x4 x5 x15 : PV) (hp : Hp) (k : Ex → St → Option R) : evC tys e6 r6_3 call rc ⟨[(2, x2), (4, x4), (5, x5), (15, x15)], hp⟩ k =
  bP (primBuild tys hp 26 (some [])) fun y0 g0 =>
  bP (primStore tys g0 26 (some x2) (some y0)) fun y2 g2 =>
  k .normal ⟨[(2, x2), (3, x5)], g2⟩ := by kernel_rfl
theorem r6_4a (call : CallK R) (rc : RC R) (x2 x4 x5 x15 : PV) (hp : Hp) (k : Ex → St → Option R) : evC tys e6 r6_4 call rc ⟨[(2, x2), (4, x4), (5, x5), (15, x15)], hp⟩ k =
  bP (primBuild tys hp 46 (some [(0, x4)])) fun y1 g1 =>
  bP (primBox tys g1 46 (some y1)) fun y2 g2 =>
  k .normal ⟨[(2, x2), (6, y2)], g2⟩ := by kernel_rfl
theorem r6_5a (call : CallK R) (rc : RC R) (x2 x6 : PV) (hp : Hp) (k : Ex → St → Option R) : evC tys e6 r6_5 call rc ⟨[(2, x2), (6, x6)], hp⟩ k =
  call 14 [x6] hp fun y1 g1 =>
  bP (primAlloc tys g1 26) fun y2 g2 =>
  bP (primStore tys g2 26 (some y2) (some y1)) fun y3 g3 =>
  k .normal ⟨[(2, x2), (6, x6), (7, y2)], g3⟩ := by kernel_rfl
theorem r6_6a (call : CallK R) (rc : RC R) (x2 x6 x7 : PV) (hp : Hp) (k : Ex → St → Option R) : evC tys e6 r6_6 call rc ⟨[(2, x2), (6, x6), (7, x7)], hp⟩ k =
  call 15 [x6] hp fun y1 g1 =>
  k .normal ⟨[(2, x2), (7, x7), (8, y1)], g1⟩ := by kernel_rfl
theorem r6_7a (call : CallK R) (rc : RC R) (x2 x7 x8 : PV) (hp : Hp) (k : Ex → St → Option R) : evC tys e6 r6_7 call rc ⟨[(2, x2), (7, x7), (8, x8)], hp⟩ k =
  bP (primBin tys hp .neq 27 (some x8) (some (i 0))) fun y1 g1 =>
  k .normal ⟨[(2, x2), (7, x7), (8, x8), (26, y1)], g1⟩ := by kernel_rfl
theorem r6_8a (call : CallK R) (rc : RC R) (x2 x7 x8 x26 : PV) (hp : Hp) (k : Ex → St → Option R) : evC tys e6 r6_8 call rc ⟨[(2, x2), (7, x7), (8, x8), (26, x26)], hp⟩ k =
  bP (primBuild tys hp 26 (some [])) fun y0 g0 =>
  bP (primStore tys g0 26 (some x2) (some y0)) fun y2 g2 =>
  k .normal ⟨[(2, x2), (3, x8)], g2⟩ := by kernel_rfl
theorem r6_9a (call : CallK R) (rc : RC R) (x2 x7 x8 x26 : PV) (hp : Hp) (k : Ex → St → Option R) : evC tys e6 r6_9 call rc ⟨[(2, x2), (7, x7), (8, x8), (26, x26)], hp⟩ k =
  bP (primLoad tys hp 26 (some x7)) fun y0 g0 =>
  call 16 [y0] g0 fun y1 g1 =>
  bP (primUn g1 .not (some y1)) fun y2 g2 =>
  k .normal ⟨[(2, x2), (7, x7), (31, y2)], g2⟩ := by kernel_rfl
theorem r6_10a (call : CallK R) (rc : RC R) (x2 x7 x31 : PV) (hp : Hp) (k : Ex → St → Option R) : evC tys e6 r6_10 call rc ⟨[(2, x2), (7, x7), (31, x31)], hp⟩ k =
  bP (primBuild tys hp 26 (some [])) fun y0 g0 =>
  bP (primStore tys g0 26 (some x2) (some y0)) fun y1 g1 =>
  k .normal ⟨[(2, x2), (3, (i 1))], g1⟩ := by kernel_rfl
theorem r6_11a (call : CallK R) (rc : RC R) (x2 x7 x31 : PV) (hp : Hp) (k : Ex → St → Option R) : evC tys e6 r6_11 call rc ⟨[(2, x2), (7, x7), (31, x31)], hp⟩ k =
  bP (primLoad tys hp 26 (some x7)) fun y0 g0 =>
  bP (primStore tys g0 26 (some x2) (some y0)) fun y1 g1 =>
  k .normal ⟨[(2, x2), (3, (i 0))], g1⟩ := by kernel_rfl
/-! function 7 -/
noncomputable def c7 : Code := codeOf Tryz.f7
noncomputable def r7_0 : Code := regAt 0 c7
noncomputable def r7_1 : Code := regAt 1 c7
noncomputable def r7_2 : Code := regAt 2 c7
noncomputable def r7_3 : Code := regAt 3 c7
noncomputable def r7_4 : Code := regAt 4 c7
noncomputable def r7_5 : Code := regAt 5 c7
noncomputable def r7_6 : Code := regAt 6 c7
noncomputable def r7_7 : Code := regAt 7 c7
noncomputable def r7_8 : Code := regAt 8 c7
noncomputable def r7_9 : Code := regAt 9 c7
noncomputable def r7_10 : Code := regAt 10 c7
noncomputable def r7_11 : Code := regAt 11 c7
theorem c7_eq : c7 = (.seq r7_0 (.seq r7_1 (.seq (.seq r7_2 (.cond (.tmp 14) (.seq r7_3 .ret) .skip)) (.seq r7_4 (.seq r7_5 (.seq r7_6 (.seq (.seq r7_7 (.cond (.tmp 33) r7_8 .skip)) (.seq (.seq r7_9 (.cond (.tmp 41) (.seq r7_10 .ret) .skip)) (.seq r7_11 .ret))))))))) := by kernel_rfl
theorem b7 (rc : RC R) (x0 : PV) (hp : Hp) (k : PV → Hp → Option R) : bodyF tys e7 rc [x0] hp k = rc e7 c7 ⟨[(0, x0)], hp⟩ (endK tys e7.fn k) := by kernel_rfl
theorem z7a (x2 x3 : PV) (hp : Hp) : resOf tys e7.fn ⟨[(2, x2), (3, x3)], hp⟩ = oneR (consO (loadAt tys hp 26 x2) (consO (some x3) (some []))) := by kernel_rfl
theorem r7_0a (call : CallK R) (rc : RC R) (x0 : PV) (hp : Hp) (k : Ex → St → Option R) : evC tys e7 r7_0 call rc ⟨[(0, x0)], hp⟩ k =
  bP (primAlloc tys hp 26) fun y0 g0 =>
  k .normal ⟨[(0, x0), (2, y0)], g0⟩ := by kernel_rfl
theorem r7_1a (call : CallK R) (rc : RC R) (x0 x2 : PV) (hp : Hp) (k : Ex → St → Option R) : evC tys e7 r7_1 call rc ⟨[(0, x0), (2, x2)], hp⟩ k =
  call 17 [x0] hp fun y1 g1 =>
  bP (primExtract g1 0 (some y1)) fun y3 g3 =>
  bP (primExtract g3 1 (some y1)) fun y4 g4 =>
  k .normal ⟨[(2, x2), (4, y3), (5, y4)], g4⟩ := by kernel_rfl
theorem r7_2a (call : CallK R) (rc : RC R) (x2 x4 x5 : PV) (hp : Hp) (k : Ex → St → Option R) : evC tys e7 r7_2 call rc ⟨[(2, x2), (4, x4), (5, x5)], hp⟩ k =
  bP (primBin tys hp .neq 27 (some x5) (some (i 0))) fun y1 g1 =>
  k .normal ⟨[(2, x2), (4, x4), (5, x5), (14, y1)], g1⟩ := by kernel_rfl
theorem r7_3a (call : CallK R) (rc : RC R) (x2 x4 x5 x14 : PV) (hp : Hp) (k : Ex → St → Option R) : evC tys e7 r7_3 call rc ⟨[(2, x2), (4, x4), (5, x5), (14, x14)], hp⟩ k =
  bP (primBuild tys hp 26 (some [])) fun y0 g0 =>
  bP (primStore tys g0 26 (some x2) (some y0)) fun y2 g2 =>
  k .normal ⟨[(2, x2), (3, x5)], g2⟩ := by kernel_rfl
theorem r7_4a (call : CallK R) (rc : RC R) (x2 x4 x5 x14 : PV) (hp : Hp) (k : Ex → St → Option R) : evC tys e7 r7_4 call rc ⟨[(2, x2), (4, x4), (5, x5), (14, x14)], hp⟩ k =
  bP (primBuild tys hp 52 (some [(0, x4)])) fun y1 g1 =>
  bP (primBox tys g1 52 (some y1)) fun y2 g2 =>
  k .normal ⟨[(2, x2), (6, y2)], g2⟩ := by kernel_rfl
theorem r7_5a (call : CallK R) (rc : RC R) (x2 x6 : PV) (hp : Hp) (k : Ex → St → Option R) : evC tys e7 r7_5 call rc ⟨[(2, x2), (6, x6)], hp⟩ k =
  call 18 [x6] hp fun y1 g1 =>
  bP (primAlloc tys g1 26) fun y2 g2 =>
  bP (primStore tys g2 26 (some y2) (some y1)) fun y3 g3 =>
  k .normal ⟨[(2, x2), (6, x6), (7, y2)], g3⟩ := by kernel_rfl
theorem r7_6a (call : CallK R) (rc : RC R) (x2 x6 x7 : PV) (hp : Hp) (k : Ex → St → Option R) : evC tys e7 r7_6 call rc ⟨[(2, x2), (6, x6), (7, x7)], hp⟩ k =
  call 19 [x6] hp fun y1 g1 =>
  k .normal ⟨[(2, x2), (6, x6), (7, x7)], g1⟩ := by kernel_rfl
theorem r7_7a (call : CallK R) (rc : RC R) (x2 x6 x7 : PV) (hp : Hp) (k : Ex → St → Option R) : evC tys e7 r7_7 call rc ⟨[(2, x2), (6, x6), (7, x7)], hp⟩ k =
  bP (primNil hp (some x6)) fun y1 g1 =>
  bP (primFieldAddr tys g1 52 2 (some y1)) fun y2 g2 =>
  bP (primLoad tys g2 27 (some y2)) fun y3 g3 =>
  bP (primBin tys g3 .eql 27 (some y3) (some (i 0))) fun y4 g4 =>
  bW (wantOf true (some y4)) g4 (fun K => bP (primLoad tys g4 26 (some x7)) K) fun y6 g6 =>
  bW (wantOf true (some y4)) g6 (fun K => call 20 [y6] g6 K) fun y7 g7 =>
  bW (wantOf true (some y4)) g7 (fun K => bP (primUn g7 .not (some y7)) K) fun y8 g8 =>
  bP (primPick g8 (some y8) (some (.v (.bool false))) (some y4)) fun y9 g9 =>
  k .normal ⟨[(2, x2), (6, x6), (7, x7), (33, y9)], g9⟩ := by kernel_rfl
theorem r7_8a (call : CallK R) (rc : RC R) (x2 x6 x7 x33 : PV) (hp : Hp) (k : Ex → St → Option R) : evC tys e7 r7_8 call rc ⟨[(2, x2), (6, x6), (7, x7), (33, x33)], hp⟩ k =
  bP (primNil hp (some x6)) fun y1 g1 =>
  bP (primFieldAddr tys g1 52 2 (some y1)) fun y2 g2 =>
  bP (primStore tys g2 27 (some y2) (some (i 1))) fun y3 g3 =>
  k .normal ⟨[(2, x2), (6, x6), (7, x7)], g3⟩ := by kernel_rfl
theorem r7_9a (call : CallK R) (rc : RC R) (x2 x6 x7 : PV) (hp : Hp) (k : Ex → St → Option R) : evC tys e7 r7_9 call rc ⟨[(2, x2), (6, x6), (7, x7)], hp⟩ k =
  bP (primNil hp (some x6)) fun y1 g1 =>
  bP (primFieldAddr tys g1 52 2 (some y1)) fun y2 g2 =>
  bP (primLoad tys g2 27 (some y2)) fun y3 g3 =>
  bP (primBin tys g3 .neq 27 (some y3) (some (i 0))) fun y4 g4 =>
  k .normal ⟨[(2, x2), (6, x6), (7, x7), (41, y4)], g4⟩ := by kernel_rfl
theorem r7_9b (call : CallK R) (rc : RC R) (x2 x6 x7 x33 : PV) (hp : Hp) (k : Ex → St → Option R) : evC tys e7 r7_9 call rc ⟨[(2, x2), (6, x6), (7, x7), (33, x33)], hp⟩ k =
  bP (primNil hp (some x6)) fun y1 g1 =>
  bP (primFieldAddr tys g1 52 2 (some y1)) fun y2 g2 =>
  bP (primLoad tys g2 27 (some y2)) fun y3 g3 =>
  bP (primBin tys g3 .neq 27 (some y3) (some (i 0))) fun y4 g4 =>
  k .normal ⟨[(2, x2), (6, x6), (7, x7), (41, y4)], g4⟩ := by kernel_rfl
theorem r7_10a (call : CallK R) (rc : RC R) (x2 x6 x7 x41 : PV) (hp : Hp) (k : Ex → St → Option R) : evC tys e7 r7_10 call rc ⟨[(2, x2), (6, x6), (7, x7), (41, x41)], hp⟩ k =
  bP (primBuild tys hp 26 (some [])) fun y0 g0 =>
  bP (primNil g0 (some x6)) fun y2 g2 =>
  bP (primFieldAddr tys g2 52 2 (some y2)) fun y3 g3 =>
  bP (primLoad tys g3 27 (some y3)) fun y4 g4 =>
  bLg (logLoad tys 4 14 ⟨[], [], []⟩ g3.next y4 (some (27, y3))) fun l4 =>
  bP (primStore tys g4 26 (some x2) (some y0)) fun y5 g5 =>
  bLg (logEff tys 5 1 l4 g4 g5) fun l5 =>
  k .normal ⟨[(2, x2), (3, y4)], g5⟩ := by kernel_rfl
theorem r7_11a (call : CallK R) (rc : RC R) (x2 x6 x7 x41 : PV) (hp : Hp) (k : Ex → St → Option R) : evC tys e7 r7_11 call rc ⟨[(2, x2), (6, x6), (7, x7), (41, x41)], hp⟩ k =
  bP (primLoad tys hp 26 (some x7)) fun y0 g0 =>
  bP (primStore tys g0 26 (some x2) (some y0)) fun y1 g1 =>
  k .normal ⟨[(2, x2), (3, (i 0))], g1⟩ := by kernel_rfl
/-! function 21 -/
noncomputable def c21 : Code := codeOf Tryz.f21
noncomputable def r21_0 : Code := regAt 0 c21
noncomputable def r21_1 : Code := regAt 1 c21
noncomputable def r21_2 : Code := regAt 2 c21
noncomputable def r21_3 : Code := regAt 3 c21
noncomputable def r21_4 : Code := regAt 4 c21
theorem c21_eq : c21 = (.seq r21_0 (.seq r21_1 (.seq (.seq r21_2 (.cond (.tmp 7) r21_3 .skip)) (.seq r21_4 .ret)))) := by kernel_rfl
theorem b21 (rc : RC R) (x0 : PV) (hp : Hp) (k : PV → Hp → Option R) : bodyF tys e21 rc [x0] hp k = rc e21 c21 ⟨[(0, x0)], hp⟩ (endK tys e21.fn k) := by kernel_rfl
theorem z21a (x2 : PV) (hp : Hp) : resOf tys e21.fn ⟨[(2, x2)], hp⟩ = oneR (consO (some x2) (some [])) := by kernel_rfl
theorem r21_0a (call : CallK R) (rc : RC R) (x0 : PV) (hp : Hp) (k : Ex → St → Option R) : evC tys e21 r21_0 call rc ⟨[(0, x0)], hp⟩ k =
  k .normal ⟨[(0, x0)], hp⟩ := by kernel_rfl
theorem r21_1a (call : CallK R) (rc : RC R) (x0 : PV) (hp : Hp) (k : Ex → St → Option R) : evC tys e21 r21_1 call rc ⟨[(0, x0)], hp⟩ k =
  call 46 [x0] hp fun y1 g1 =>
  k .normal ⟨[(0, x0), (3, y1)], g1⟩ := by kernel_rfl
theorem r21_2a (call : CallK R) (rc : RC R) (x0 x3 : PV) (hp : Hp) (k : Ex → St → Option R) : evC tys e21 r21_2 call rc ⟨[(0, x0), (3, x3)], hp⟩ k =
  bP (primBin tys hp .gtr 5 (some x3) (some (.v (.int .u8 (.ofNat 1))))) fun y1 g1 =>
  k .normal ⟨[(0, x0), (3, x3), (7, y1)], g1⟩ := by kernel_rfl
theorem r21_3a (call : CallK R) (rc : RC R) (x0 x3 x7 : PV) (hp : Hp) (k : Ex → St → Option R) : evC tys e21 r21_3 call rc ⟨[(0, x0), (3, x3), (7, x7)], hp⟩ k =
  call 35 [x0, (i 5)] hp fun y1 g1 =>
  k .normal ⟨[(3, x3)], g1⟩ := by kernel_rfl
theorem r21_4a (call : CallK R) (rc : RC R) (x3 : PV) (hp : Hp) (k : Ex → St → Option R) : evC tys e21 r21_4 call rc ⟨[(3, x3)], hp⟩ k =
  bP (primBin tys hp .eql 5 (some x3) (some (.v (.int .u8 (.ofNat 1))))) fun y1 g1 =>
  k .normal ⟨[(2, y1)], g1⟩ := by kernel_rfl
theorem r21_4b (call : CallK R) (rc : RC R) (x0 x3 x7 : PV) (hp : Hp) (k : Ex → St → Option R) : evC tys e21 r21_4 call rc ⟨[(0, x0), (3, x3), (7, x7)], hp⟩ k =
  bP (primBin tys hp .eql 5 (some x3) (some (.v (.int .u8 (.ofNat 1))))) fun y1 g1 =>
  k .normal ⟨[(2, y1)], g1⟩ := by kernel_rfl
/-! function 26 -/
noncomputable def c26 : Code := codeOf Tryz.f26
noncomputable def r26_0 : Code := regAt 0 c26
noncomputable def r26_1 : Code := regAt 1 c26
noncomputable def r26_2 : Code := regAt 2 c26
noncomputable def r26_3 : Code := regAt 3 c26
noncomputable def r26_4 : Code := regAt 4 c26
theorem c26_eq : c26 = (.seq r26_0 (.seq r26_1 (.seq (.seq r26_2 (.cond (.tmp 7) r26_3 .skip)) (.seq r26_4 .ret)))) := by kernel_rfl
theorem b26 (rc : RC R) (x0 : PV) (hp : Hp) (k : PV → Hp → Option R) : bodyF tys e26 rc [x0] hp k = rc e26 c26 ⟨[(0, x0)], hp⟩ (endK tys e26.fn k) := by kernel_rfl
theorem z26a (x2 : PV) (hp : Hp) : resOf tys e26.fn ⟨[(2, x2)], hp⟩ = oneR (consO (some x2) (some [])) := by kernel_rfl
theorem r26_0a (call : CallK R) (rc : RC R) (x0 : PV) (hp : Hp) (k : Ex → St → Option R) : evC tys e26 r26_0 call rc ⟨[(0, x0)], hp⟩ k =
  k .normal ⟨[(0, x0)], hp⟩ := by kernel_rfl
theorem r26_1a (call : CallK R) (rc : RC R) (x0 : PV) (hp : Hp) (k : Ex → St → Option R) : evC tys e26 r26_1 call rc ⟨[(0, x0)], hp⟩ k =
  call 50 [x0] hp fun y1 g1 =>
  k .normal ⟨[(0, x0), (3, y1)], g1⟩ := by kernel_rfl
theorem r26_2a (call : CallK R) (rc : RC R) (x0 x3 : PV) (hp : Hp) (k : Ex → St → Option R) : evC tys e26 r26_2 call rc ⟨[(0, x0), (3, x3)], hp⟩ k =
  bP (primBin tys hp .gtr 5 (some x3) (some (.v (.int .u8 (.ofNat 1))))) fun y1 g1 =>
  k .normal ⟨[(0, x0), (3, x3), (7, y1)], g1⟩ := by kernel_rfl
theorem r26_3a (call : CallK R) (rc : RC R) (x0 x3 x7 : PV) (hp : Hp) (k : Ex → St → Option R) : evC tys e26 r26_3 call rc ⟨[(0, x0), (3, x3), (7, x7)], hp⟩ k =
  call 41 [x0, (i 5)] hp fun y1 g1 =>
  k .normal ⟨[(3, x3)], g1⟩ := by kernel_rfl
theorem r26_4a (call : CallK R) (rc : RC R) (x3 : PV) (hp : Hp) (k : Ex → St → Option R) : evC tys e26 r26_4 call rc ⟨[(3, x3)], hp⟩ k =
  bP (primBin tys hp .eql 5 (some x3) (some (.v (.int .u8 (.ofNat 1))))) fun y1 g1 =>
  k .normal ⟨[(2, y1)], g1⟩ := by kernel_rfl
theorem r26_4b (call : CallK R) (rc : RC R) (x0 x3 x7 : PV) (hp : Hp) (k : Ex → St → Option R) : evC tys e26 r26_4 call rc ⟨[(0, x0), (3, x3), (7, x7)], hp⟩ k =
  bP (primBin tys hp .eql 5 (some x3) (some (.v (.int .u8 (.ofNat 1))))) fun y1 g1 =>
  k .normal ⟨[(2, y1)], g1⟩ := by kernel_rfl
end
end Go.Ev
