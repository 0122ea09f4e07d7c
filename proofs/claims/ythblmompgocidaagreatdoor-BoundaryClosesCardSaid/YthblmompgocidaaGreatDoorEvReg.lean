/- What the regions come to. -/
import Derived.Test.YthblmompgocidaaGreatDoorEvSh
import Derived.Test.YthblmompgocidaaGreatDoorEvTabF
set_option linter.all false
namespace Go.Ev
open Go.Proofs
section
variable {R : Type}
/-! function 3 -/
noncomputable def c3 : Code := codeOf Tryz.f3
noncomputable def r3_0 : Code := regAt 0 c3
noncomputable def r3_1 : Code := regAt 1 c3
noncomputable def r3_2 : Code := regAt 2 c3
noncomputable def r3_3 : Code := regAt 3 c3
noncomputable def r3_4 : Code := regAt 4 c3
noncomputable def r3_5 : Code := regAt 5 c3
noncomputable def r3_6 : Code := regAt 6 c3
theorem c3_eq : c3 = (.seq r3_0 (.seq r3_1 (.seq r3_2 (.seq r3_3 (.seq r3_4 (.seq r3_5 (.seq r3_6 .ret))))))) := by kernel_rfl
theorem b3 (rc : RC R) (x0 x1 : PV) (hp : Hp) (k : PV → Hp → Option R) : bodyF tys e3 rc [x0, x1] hp k = rc e3 c3 ⟨[(0, x0), (1, x1)], hp⟩ (endK tys e3.fn k) := by kernel_rfl
theorem z3a (x4 : PV) (hp : Hp) : resOf tys e3.fn ⟨[(4, x4)], hp⟩ = oneR (consO (some x4) (some [])) := by kernel_rfl
theorem r3_0a (call : CallK R) (rc : RC R) (x0 x1 : PV) (hp : Hp) (k : Ex → St → Option R) : evC tys e3 r3_0 call rc ⟨[(0, x0), (1, x1)], hp⟩ k =
  k .normal ⟨[(0, x0), (1, x1)], hp⟩ := by kernel_rfl
theorem r3_1a (call : CallK R) (rc : RC R) (x0 x1 : PV) (hp : Hp) (k : Ex → St → Option R) : evC tys e3 r3_1 call rc ⟨[(0, x0), (1, x1)], hp⟩ k =
  bP (primBuildSlice tys hp 23 8 (some [(0, (sb [40,105,110,116,41,32,45,62,32,105,110,116])), (1, (sb [123,40,105,110,116,41,32,45,62,32,105,110,116,44,32,105,110,116,125])), (2, (sb [123,58,97,44,32,40,105,110,116,41,32,45,62,32,105,110,116,125,32,111,114,32,123,58,111,107,44,32,105,110,116,125])), (3, (sb [108,105,115,116,40,40,105,110,116,41,32,45,62,32,105,110,116,41])), (4, (sb [37,123,97,58,32,40,105,110,116,41,32,45,62,32,105,110,116,125])), (5, (sb [105,110,116,32,111,114,32,40,40,105,110,116,41,32,45,62,32,105,110,116,41])), (6, (sb [123,105,110,116,125,32,111,114,32,40,40,105,110,116,41,32,45,62,32,105,110,116,41])), (7, (sb [40,41,32,45,62,32,105,110,116]))])) fun y0 g0 =>
  k .normal ⟨[(0, x0), (1, x1), (5, y0)], g0⟩ := by kernel_rfl
theorem r3_2a (call : CallK R) (rc : RC R) (x0 x1 x5 : PV) (hp : Hp) (k : Ex → St → Option R) : evC tys e3 r3_2 call rc ⟨[(0, x0), (1, x1), (5, x5)], hp⟩ k =
  bP (primConv tys hp 3 30 (some x0)) fun y2 g2 =>
  bP (primLen tys g2 23 (some x5)) fun y4 g4 =>
  bP (primConv tys g4 3 30 (some y4)) fun y5 g5 =>
  bP (primBin tys g5 .rem 30 (some y2) (some y5)) fun y6 g6 =>
  bP (primIndexAddr tys g6 23 (some x5) (some y6)) fun y7 g7 =>
  bP (primLoad tys g7 9 (some y7)) fun y8 g8 =>
  call 4 [y8] g8 fun y9 g9 =>
  bP (primExtract g9 0 (some y9)) fun y11 g11 =>
  bP (primExtract g11 1 (some y9)) fun y12 g12 =>
  bP (primAlloc tys g12 26) fun y13 g13 =>
  bP (primStore tys g13 26 (some y13) (some y11)) fun y14 g14 =>
  k .normal ⟨[(1, x1), (6, y13)], g14⟩ := by kernel_rfl
theorem r3_3a (call : CallK R) (rc : RC R) (x1 x6 : PV) (hp : Hp) (k : Ex → St → Option R) : evC tys e3 r3_3 call rc ⟨[(1, x1), (6, x6)], hp⟩ k =
  bP (primLen tys hp 22 (some x1)) fun y2 g2 =>
  bP (primMin g2 false (some [y2, (i 70)])) fun y3 g3 =>
  bP (primSlice tys g3 22 (some x1) (some none) (some (some y3)) (some none)) fun y4 g4 =>
  bP (primBuild tys g4 33 (some [(0, y4)])) fun y5 g5 =>
  bP (primBox tys g5 33 (some y5)) fun y6 g6 =>
  k .normal ⟨[(6, x6), (8, y6)], g6⟩ := by kernel_rfl
theorem r3_4a (call : CallK R) (rc : RC R) (x6 x8 : PV) (hp : Hp) (k : Ex → St → Option R) : evC tys e3 r3_4 call rc ⟨[(6, x6), (8, x8)], hp⟩ k =
  bP (primLoad tys hp 26 (some x6)) fun y1 g1 =>
  bP (primFieldAddr tys g1 26 1 (some x6)) fun y2 g2 =>
  bP (primLoad tys g2 3 (some y2)) fun y3 g3 =>
  call 5 [x8, y1, y3, (i 4)] g3 fun y4 g4 =>
  bP (primAlloc tys g4 37) fun y5 g5 =>
  bP (primStore tys g5 37 (some y5) (some y4)) fun y6 g6 =>
  k .normal ⟨[(6, x6), (9, y5)], g6⟩ := by kernel_rfl
theorem r3_5a (call : CallK R) (rc : RC R) (x6 x9 : PV) (hp : Hp) (k : Ex → St → Option R) : evC tys e3 r3_5 call rc ⟨[(6, x6), (9, x9)], hp⟩ k =
  bP (primLoad tys hp 37 (some x9)) fun y0 g0 =>
  bP (primLoad tys g0 26 (some x6)) fun y1 g1 =>
  call 6 [y0, y1, (sb [112]), (sb [113])] g1 fun y2 g2 =>
  bP (primAlloc tys g2 37) fun y3 g3 =>
  bP (primStore tys g3 37 (some y3) (some y2)) fun y4 g4 =>
  k .normal ⟨[(6, x6), (9, x9), (10, y3)], g4⟩ := by kernel_rfl
theorem r3_6a (call : CallK R) (rc : RC R) (x6 x9 x10 : PV) (hp : Hp) (k : Ex → St → Option R) : evC tys e3 r3_6 call rc ⟨[(6, x6), (9, x9), (10, x10)], hp⟩ k =
  bP (primLoad tys hp 37 (some x9)) fun y0 g0 =>
  bP (primLoad tys g0 26 (some x6)) fun y1 g1 =>
  call 7 [y0, y1] g1 fun y2 g2 =>
  bP (primUn g2 .not (some y2)) fun y3 g3 =>
  bW (wantOf false (some y3)) g3 (fun K => bP (primLoad tys g3 37 (some x10)) K) fun y5 g5 =>
  bW (wantOf false (some y3)) g5 (fun K => call 8 [y5, (sb [112]), (sb [113])] g5 K) fun y6 g6 =>
  bW (wantOf false (some y3)) g6 (fun K => bP (primUn g6 .not (some y6)) K) fun y7 g7 =>
  bP (primPick g7 (some (.v (.bool true))) (some y7) (some y3)) fun y8 g8 =>
  bW (wantOf true (some y8)) g8 (fun K => call 9 [] g8 K) fun y10 g10 =>
  bP (primPick g10 (some y10) (some (.v (.bool false))) (some y8)) fun y11 g11 =>
  k .normal ⟨[(4, y11)], g11⟩ := by kernel_rfl
/-! function 15 -/
noncomputable def c15 : Code := codeOf Tryz.f15
noncomputable def r15_0 : Code := regAt 0 c15
noncomputable def r15_1 : Code := regAt 1 c15
noncomputable def r15_2 : Code := regAt 2 c15
noncomputable def r15_3 : Code := regAt 3 c15
noncomputable def r15_4 : Code := regAt 4 c15
noncomputable def r15_5 : Code := regAt 5 c15
noncomputable def r15_6 : Code := regAt 6 c15
noncomputable def r15_7 : Code := regAt 7 c15
theorem c15_eq : c15 = (.seq r15_0 (.seq (.seq r15_1 (.cond (.tmp 19) (.seq r15_2 .ret) .skip)) (.seq r15_3 (.seq r15_4 (.seq (.seq r15_5 (.cond (.tmp 41) r15_6 .skip)) (.seq r15_7 .ret)))))) := by kernel_rfl
theorem b15 (rc : RC R) (x0 x1 : PV) (hp : Hp) (k : PV → Hp → Option R) : bodyF tys e15 rc [x0, x1] hp k = rc e15 c15 ⟨[(0, x0), (1, x1)], hp⟩ (endK tys e15.fn k) := by kernel_rfl
theorem z15a (x4 : PV) (hp : Hp) : resOf tys e15.fn ⟨[(4, x4)], hp⟩ = oneR (consO (some x4) (some [])) := by kernel_rfl
theorem r15_0a (call : CallK R) (rc : RC R) (x0 x1 : PV) (hp : Hp) (k : Ex → St → Option R) : evC tys e15 r15_0 call rc ⟨[(0, x0), (1, x1)], hp⟩ k =
  k .normal ⟨[(0, x0), (1, x1)], hp⟩ := by kernel_rfl
theorem r15_1a (call : CallK R) (rc : RC R) (x0 x1 : PV) (hp : Hp) (k : Ex → St → Option R) : evC tys e15 r15_1 call rc ⟨[(0, x0), (1, x1)], hp⟩ k =
  bP (primBin tys hp .lss 3 (some x1) (some (i 1))) fun y1 g1 =>
  bWD (wantOf false (some y1)) g1 (fun K => K x0 g1) fun b3 y3 g3 =>
  bLg (ranL b3 ⟨[], [], []⟩ (some ⟨[], [], []⟩)) fun l3 =>
  bWD (wantOf false (some y1)) g3 (fun K => bP (primNil g3 (some y3)) K) fun b4 y4 g4 =>
  bLg (ranL b4 l3 (some l3)) fun l4 =>
  bWD (wantOf false (some y1)) g4 (fun K => bP (primFieldAddr tys g4 33 1 (some y4)) K) fun b5 y5 g5 =>
  bLg (ranL b5 l4 (some l4)) fun l5 =>
  bWD (wantOf false (some y1)) g5 (fun K => bP (primLoad tys g5 3 (some y5)) K) fun b6 y6 g6 =>
  bLg (ranL b6 l5 (logLoad tys 6 63 l5 g5.next y6 (some (3, y5)))) fun l6 =>
  bWD (wantOf false (some y1)) g6 (fun K => K x0 g6) fun b7 y7 g7 =>
  bLg (ranL b7 l6 (some l6)) fun l7 =>
  bWD (wantOf false (some y1)) g7 (fun K => bP (primNil g7 (some y7)) K) fun b8 y8 g8 =>
  bLg (ranL b8 l7 (some l7)) fun l8 =>
  bWD (wantOf false (some y1)) g8 (fun K => bP (primFieldAddr tys g8 33 0 (some y8)) K) fun b9 y9 g9 =>
  bLg (ranL b9 l8 (some l8)) fun l9 =>
  bWD (wantOf false (some y1)) g9 (fun K => bP (primLoad tys g9 22 (some y9)) K) fun b10 y10 g10 =>
  bLg (ranL b10 l9 (logLoad tys 10 903 l9 g9.next y10 (some (22, y9)))) fun l10 =>
  bWD (wantOf false (some y1)) g10 (fun K => bP (primLen tys g10 22 (some y10)) K) fun b11 y11 g11 =>
  bLg (ranL b11 l10 (some l10)) fun l11 =>
  bWD (wantOf false (some y1)) g11 (fun K => bP (primBin tys g11 .geq 3 (some y6) (some y11)) K) fun b12 y12 g12 =>
  bLg (ranL b12 l11 (some l11)) fun l12 =>
  bP (primPick g12 (some (.v (.bool true))) (some y12) (some y1)) fun y13 g13 =>
  k .normal ⟨[(0, x0), (1, x1), (19, y13)], g13⟩ := by kernel_rfl
theorem r15_2a (call : CallK R) (rc : RC R) (x0 x1 x19 : PV) (hp : Hp) (k : Ex → St → Option R) : evC tys e15 r15_2 call rc ⟨[(0, x0), (1, x1), (19, x19)], hp⟩ k =
  k .normal ⟨[(4, (i 0))], hp⟩ := by kernel_rfl
theorem r15_3a (call : CallK R) (rc : RC R) (x0 x1 x19 : PV) (hp : Hp) (k : Ex → St → Option R) : evC tys e15 r15_3 call rc ⟨[(0, x0), (1, x1), (19, x19)], hp⟩ k =
  bP (primNil hp (some x0)) fun y1 g1 =>
  bP (primFieldAddr tys g1 33 0 (some y1)) fun y2 g2 =>
  bP (primLoad tys g2 22 (some y2)) fun y3 g3 =>
  bLg (logLoad tys 3 7 ⟨[], [], []⟩ g2.next y3 (some (22, y2))) fun l3 =>
  bP (primNil g3 (some x0)) fun y5 g5 =>
  bP (primFieldAddr tys g5 33 1 (some y5)) fun y6 g6 =>
  bP (primLoad tys g6 3 (some y6)) fun y7 g7 =>
  bLg (logLoad tys 7 112 l3 g6.next y7 (some (3, y6))) fun l7 =>
  bP (primIndexAddr tys g7 22 (some y3) (some y7)) fun y8 g8 =>
  bP (primLoad tys g8 3 (some y8)) fun y9 g9 =>
  bLg (logLoad tys 9 511 l7 g8.next y9 (some (3, y8))) fun l9 =>
  bP (primBin tys g9 .rem 3 (some y9) (some x1)) fun y11 g11 =>
  k .normal ⟨[(0, x0), (1, x1), (5, y11)], g11⟩ := by kernel_rfl
theorem r15_4a (call : CallK R) (rc : RC R) (x0 x1 x5 : PV) (hp : Hp) (k : Ex → St → Option R) : evC tys e15 r15_4 call rc ⟨[(0, x0), (1, x1), (5, x5)], hp⟩ k =
  bP (primNil hp (some x0)) fun y2 g2 =>
  bP (primFieldAddr tys g2 33 1 (some y2)) fun y3 g3 =>
  bP (primLoad tys g3 3 (some y3)) fun y4 g4 =>
  bP (primBin tys g4 .add 3 (some y4) (some (i 1))) fun y5 g5 =>
  bP (primNil g5 (some x0)) fun y6 g6 =>
  bP (primFieldAddr tys g6 33 1 (some y6)) fun y7 g7 =>
  bP (primStore tys g7 3 (some y7) (some y5)) fun y8 g8 =>
  k .normal ⟨[(1, x1), (5, x5)], g8⟩ := by kernel_rfl
theorem r15_5a (call : CallK R) (rc : RC R) (x1 x5 : PV) (hp : Hp) (k : Ex → St → Option R) : evC tys e15 r15_5 call rc ⟨[(1, x1), (5, x5)], hp⟩ k =
  bP (primBin tys hp .lss 3 (some x5) (some (i 0))) fun y1 g1 =>
  k .normal ⟨[(1, x1), (5, x5), (41, y1)], g1⟩ := by kernel_rfl
theorem r15_6a (call : CallK R) (rc : RC R) (x1 x5 x41 : PV) (hp : Hp) (k : Ex → St → Option R) : evC tys e15 r15_6 call rc ⟨[(1, x1), (5, x5), (41, x41)], hp⟩ k =
  bP (primBin tys hp .add 3 (some x5) (some x1)) fun y2 g2 =>
  k .normal ⟨[(5, y2)], g2⟩ := by kernel_rfl
theorem r15_7a (call : CallK R) (rc : RC R) (x5 : PV) (hp : Hp) (k : Ex → St → Option R) : evC tys e15 r15_7 call rc ⟨[(5, x5)], hp⟩ k =
  k .normal ⟨[(4, x5)], hp⟩ := by kernel_rfl
theorem r15_7b (call : CallK R) (rc : RC R) (x1 x5 x41 : PV) (hp : Hp) (k : Ex → St → Option R) : evC tys e15 r15_7 call rc ⟨[(1, x1), (5, x5), (41, x41)], hp⟩ k =
  k .normal ⟨[(4, x5)], hp⟩ := by kernel_rfl
end
end Go.Ev
