/- The types of the program, as the evaluator asks for them. -/
import Derived.Test.YtaceidhlamlmhaaGreatEvFast
import Derived.KernelRfl
import Derived.Test.YtaceidhlamlmhaaGreatProg
set_option linter.all false
namespace Go.Ev
open Go.Proofs
abbrev i (n : Nat) : PV := .v (.int .i64 (.ofNat n))
abbrev j (n : Nat) : PV := .v (.int .i64 (.negSucc n))
abbrev nl : PV := .v (.slice none 0 0)
abbrev st (l : List Nat) : Value := .string ⟨⟨l.map UInt8.ofNat⟩⟩
abbrev sb (l : List Nat) : PV := .v (st l)
def y1 : TyI := ⟨1, false, [.nilFunc], 0, 0, 0, [], 8, true, .i64⟩
theorem y1ok : mkTy Tryz.prog 1 = some y1 ∧ zeroOk y1.zero = true := ⟨by kernel_rfl, by kernel_rfl⟩
def y2 : TyI := ⟨1, false, [(.int .i64 (.ofNat 0))], 0, 0, 6, [], 8, true, .i64⟩
theorem y2ok : mkTy Tryz.prog 2 = some y2 ∧ zeroOk y2.zero = true := ⟨by kernel_rfl, by kernel_rfl⟩
def y3 : TyI := ⟨1, false, [(.int .i64 (.ofNat 0))], 0, 0, 6, [], 8, true, .i64⟩
theorem y3ok : mkTy Tryz.prog 3 = some y3 ∧ zeroOk y3.zero = true := ⟨by kernel_rfl, by kernel_rfl⟩
def y4 : TyI := ⟨1, false, [(.bool false)], 0, 0, 7, [], 1, true, .i64⟩
theorem y4ok : mkTy Tryz.prog 4 = some y4 ∧ zeroOk y4.zero = true := ⟨by kernel_rfl, by kernel_rfl⟩
def y5 : TyI := ⟨1, false, [(.int .u8 (.ofNat 0))], 0, 0, 6, [], 1, true, .u8⟩
theorem y5ok : mkTy Tryz.prog 5 = some y5 ∧ zeroOk y5.zero = true := ⟨by kernel_rfl, by kernel_rfl⟩
def y6 : TyI := ⟨1, false, [(.int .u8 (.ofNat 0))], 0, 0, 6, [], 1, true, .u8⟩
theorem y6ok : mkTy Tryz.prog 6 = some y6 ∧ zeroOk y6.zero = true := ⟨by kernel_rfl, by kernel_rfl⟩
def y7 : TyI := ⟨4, true, [(.int .i64 (.ofNat 0)), (.int .i64 (.ofNat 0)), (.bool false), (.int .u8 (.ofNat 0))], 0, 0, 3, [(0,2),(1,3),(2,4),(3,6)], 24, true, .i64⟩
theorem y7ok : mkTy Tryz.prog 7 = some y7 ∧ zeroOk y7.zero = true := ⟨by kernel_rfl, by kernel_rfl⟩
def y8 : TyI := ⟨4, true, [(.int .i64 (.ofNat 0)), (.int .i64 (.ofNat 0)), (.bool false), (.int .u8 (.ofNat 0))], 0, 0, 3, [(0,2),(1,3),(2,4),(3,6)], 24, true, .i64⟩
theorem y8ok : mkTy Tryz.prog 8 = some y8 ∧ zeroOk y8.zero = true := ⟨by kernel_rfl, by kernel_rfl⟩
def y9 : TyI := ⟨1, false, [(.string ⟨#[]⟩)], 0, 0, 4, [], 16, true, .i64⟩
theorem y9ok : mkTy Tryz.prog 9 = some y9 ∧ zeroOk y9.zero = true := ⟨by kernel_rfl, by kernel_rfl⟩
def y10 : TyI := ⟨1, false, [(.string ⟨#[]⟩)], 0, 0, 4, [], 16, true, .i64⟩
theorem y10ok : mkTy Tryz.prog 10 = some y10 ∧ zeroOk y10.zero = true := ⟨by kernel_rfl, by kernel_rfl⟩
def y11 : TyI := ⟨1, false, [(.string ⟨#[]⟩)], 0, 0, 4, [], 16, true, .i64⟩
theorem y11ok : mkTy Tryz.prog 11 = some y11 ∧ zeroOk y11.zero = true := ⟨by kernel_rfl, by kernel_rfl⟩
def y12 : TyI := ⟨1, false, [(.int .u64 (.ofNat 0))], 0, 0, 6, [], 8, true, .u64⟩
theorem y12ok : mkTy Tryz.prog 12 = some y12 ∧ zeroOk y12.zero = true := ⟨by kernel_rfl, by kernel_rfl⟩
def y13 : TyI := ⟨2, true, [(.string ⟨#[]⟩), (.int .u64 (.ofNat 0))], 0, 0, 3, [(0,9),(1,12)], 24, false, .i64⟩
theorem y13ok : mkTy Tryz.prog 13 = some y13 ∧ zeroOk y13.zero = true := ⟨by kernel_rfl, by kernel_rfl⟩
def y14 : TyI := ⟨2, true, [(.string ⟨#[]⟩), (.int .u64 (.ofNat 0))], 0, 0, 3, [(0,9),(1,12)], 24, false, .i64⟩
theorem y14ok : mkTy Tryz.prog 14 = some y14 ∧ zeroOk y14.zero = true := ⟨by kernel_rfl, by kernel_rfl⟩
def y15 : TyI := ⟨1, false, [(.pointer none)], 0, 0, 8, [], 8, true, .i64⟩
theorem y15ok : mkTy Tryz.prog 15 = some y15 ∧ zeroOk y15.zero = true := ⟨by kernel_rfl, by kernel_rfl⟩
def y16 : TyI := ⟨1, false, [(.pointer none)], 0, 0, 8, [], 8, true, .i64⟩
theorem y16ok : mkTy Tryz.prog 16 = some y16 ∧ zeroOk y16.zero = true := ⟨by kernel_rfl, by kernel_rfl⟩
def y17 : TyI := ⟨1, false, [(.pointer none)], 0, 0, 8, [], 8, true, .i64⟩
theorem y17ok : mkTy Tryz.prog 17 = some y17 ∧ zeroOk y17.zero = true := ⟨by kernel_rfl, by kernel_rfl⟩
def y18 : TyI := ⟨1, true, [(.pointer none)], 0, 0, 3, [(0,17)], 8, false, .i64⟩
theorem y18ok : mkTy Tryz.prog 18 = some y18 ∧ zeroOk y18.zero = true := ⟨by kernel_rfl, by kernel_rfl⟩
def y19 : TyI := ⟨1, true, [(.pointer none)], 0, 0, 3, [(0,17)], 8, false, .i64⟩
theorem y19ok : mkTy Tryz.prog 19 = some y19 ∧ zeroOk y19.zero = true := ⟨by kernel_rfl, by kernel_rfl⟩
def y20 : TyI := ⟨1, false, [.nilIface], 0, 0, 5, [], 16, true, .i64⟩
theorem y20ok : mkTy Tryz.prog 20 = some y20 ∧ zeroOk y20.zero = true := ⟨by kernel_rfl, by kernel_rfl⟩
def y21 : TyI := ⟨1, false, [(.int .i32 (.ofNat 0))], 0, 0, 6, [], 4, true, .i32⟩
theorem y21ok : mkTy Tryz.prog 21 = some y21 ∧ zeroOk y21.zero = true := ⟨by kernel_rfl, by kernel_rfl⟩
def y22 : TyI := ⟨2, true, [(.int .i64 (.ofNat 0)), (.string ⟨#[]⟩)], 0, 0, 3, [(0,3),(1,9)], 24, true, .i64⟩
theorem y22ok : mkTy Tryz.prog 22 = some y22 ∧ zeroOk y22.zero = true := ⟨by kernel_rfl, by kernel_rfl⟩
def y23 : TyI := ⟨2, true, [(.int .i64 (.ofNat 0)), (.string ⟨#[]⟩)], 0, 0, 3, [(0,3),(1,9)], 24, true, .i64⟩
theorem y23ok : mkTy Tryz.prog 23 = some y23 ∧ zeroOk y23.zero = true := ⟨by kernel_rfl, by kernel_rfl⟩
def y24 : TyI := ⟨1, false, [(.slice none 0 0)], 3, 0, 1, [], 24, true, .i64⟩
theorem y24ok : mkTy Tryz.prog 24 = some y24 ∧ zeroOk y24.zero = true := ⟨by kernel_rfl, by kernel_rfl⟩
def y25 : TyI := ⟨1, false, [(.int .u64 (.ofNat 0))], 0, 0, 6, [], 8, true, .u64⟩
theorem y25ok : mkTy Tryz.prog 25 = some y25 ∧ zeroOk y25.zero = true := ⟨by kernel_rfl, by kernel_rfl⟩
def y26 : TyI := ⟨1, false, [(.pointer none)], 0, 0, 8, [], 8, true, .i64⟩
theorem y26ok : mkTy Tryz.prog 26 = some y26 ∧ zeroOk y26.zero = true := ⟨by kernel_rfl, by kernel_rfl⟩
def y27 : TyI := ⟨2, true, [(.slice none 0 0), (.int .i64 (.ofNat 0))], 0, 0, 3, [(0,24),(1,3)], 32, true, .i64⟩
theorem y27ok : mkTy Tryz.prog 27 = some y27 ∧ zeroOk y27.zero = true := ⟨by kernel_rfl, by kernel_rfl⟩
def y28 : TyI := ⟨2, true, [(.slice none 0 0), (.int .i64 (.ofNat 0))], 0, 0, 3, [(0,24),(1,3)], 32, true, .i64⟩
theorem y28ok : mkTy Tryz.prog 28 = some y28 ∧ zeroOk y28.zero = true := ⟨by kernel_rfl, by kernel_rfl⟩
def y29 : TyI := ⟨1, false, [.nilFunc], 0, 0, 0, [], 8, true, .i64⟩
theorem y29ok : mkTy Tryz.prog 29 = some y29 ∧ zeroOk y29.zero = true := ⟨by kernel_rfl, by kernel_rfl⟩
def y30 : TyI := ⟨1, false, [.nilFunc], 0, 0, 0, [], 8, true, .i64⟩
theorem y30ok : mkTy Tryz.prog 30 = some y30 ∧ zeroOk y30.zero = true := ⟨by kernel_rfl, by kernel_rfl⟩
def y31 : TyI := ⟨1, false, [(.slice none 0 0)], 45, 0, 1, [], 24, true, .i64⟩
theorem y31ok : mkTy Tryz.prog 31 = some y31 ∧ zeroOk y31.zero = true := ⟨by kernel_rfl, by kernel_rfl⟩
def y32 : TyI := ⟨2, true, [(.slice none 0 0), (.int .i64 (.ofNat 0))], 0, 0, 3, [(0,31),(1,3)], 32, true, .i64⟩
theorem y32ok : mkTy Tryz.prog 32 = some y32 ∧ zeroOk y32.zero = true := ⟨by kernel_rfl, by kernel_rfl⟩
def y33 : TyI := ⟨2, true, [(.slice none 0 0), (.int .i64 (.ofNat 0))], 0, 0, 3, [(0,31),(1,3)], 32, true, .i64⟩
theorem y33ok : mkTy Tryz.prog 33 = some y33 ∧ zeroOk y33.zero = true := ⟨by kernel_rfl, by kernel_rfl⟩
def y34 : TyI := ⟨1, false, [.nilFunc], 0, 0, 0, [], 8, true, .i64⟩
theorem y34ok : mkTy Tryz.prog 34 = some y34 ∧ zeroOk y34.zero = true := ⟨by kernel_rfl, by kernel_rfl⟩
def y35 : TyI := ⟨1, false, [.nilFunc], 0, 0, 0, [], 8, true, .i64⟩
theorem y35ok : mkTy Tryz.prog 35 = some y35 ∧ zeroOk y35.zero = true := ⟨by kernel_rfl, by kernel_rfl⟩
def y36 : TyI := ⟨1, false, [.nilFunc], 0, 0, 0, [], 8, true, .i64⟩
theorem y36ok : mkTy Tryz.prog 36 = some y36 ∧ zeroOk y36.zero = true := ⟨by kernel_rfl, by kernel_rfl⟩
def y37 : TyI := ⟨1, false, [.nilFunc], 0, 0, 0, [], 8, true, .i64⟩
theorem y37ok : mkTy Tryz.prog 37 = some y37 ∧ zeroOk y37.zero = true := ⟨by kernel_rfl, by kernel_rfl⟩
def y38 : TyI := ⟨1, false, [.nilFunc], 0, 0, 0, [], 8, true, .i64⟩
theorem y38ok : mkTy Tryz.prog 38 = some y38 ∧ zeroOk y38.zero = true := ⟨by kernel_rfl, by kernel_rfl⟩
def y39 : TyI := ⟨1, false, [.nilFunc], 0, 0, 0, [], 8, true, .i64⟩
theorem y39ok : mkTy Tryz.prog 39 = some y39 ∧ zeroOk y39.zero = true := ⟨by kernel_rfl, by kernel_rfl⟩
def y40 : TyI := ⟨1, false, [.nilFunc], 0, 0, 0, [], 8, true, .i64⟩
theorem y40ok : mkTy Tryz.prog 40 = some y40 ∧ zeroOk y40.zero = true := ⟨by kernel_rfl, by kernel_rfl⟩
def y41 : TyI := ⟨1, false, [.nilFunc], 0, 0, 0, [], 8, true, .i64⟩
theorem y41ok : mkTy Tryz.prog 41 = some y41 ∧ zeroOk y41.zero = true := ⟨by kernel_rfl, by kernel_rfl⟩
def y42 : TyI := ⟨1, false, [(.slice none 0 0)], 49, 0, 1, [], 24, true, .i64⟩
theorem y42ok : mkTy Tryz.prog 42 = some y42 ∧ zeroOk y42.zero = true := ⟨by kernel_rfl, by kernel_rfl⟩
def y43 : TyI := ⟨2, true, [(.int .i64 (.ofNat 0)), (.int .i64 (.ofNat 0))], 3, 2, 2, [], 16, true, .i64⟩
theorem y43ok : mkTy Tryz.prog 43 = some y43 ∧ zeroOk y43.zero = true := ⟨by kernel_rfl, by kernel_rfl⟩
def y44 : TyI := ⟨8, true, [(.int .i64 (.ofNat 0)), (.int .i64 (.ofNat 0)), (.int .i64 (.ofNat 0)), (.string ⟨#[]⟩), (.slice none 0 0), (.slice none 0 0), (.int .i64 (.ofNat 0)), (.int .i64 (.ofNat 0))], 0, 0, 3, [(0,3),(1,2),(2,2),(3,9),(4,24),(5,42),(6,43)], 104, true, .i64⟩
theorem y44ok : mkTy Tryz.prog 44 = some y44 ∧ zeroOk y44.zero = true := ⟨by kernel_rfl, by kernel_rfl⟩
def y45 : TyI := ⟨8, true, [(.int .i64 (.ofNat 0)), (.int .i64 (.ofNat 0)), (.int .i64 (.ofNat 0)), (.string ⟨#[]⟩), (.slice none 0 0), (.slice none 0 0), (.int .i64 (.ofNat 0)), (.int .i64 (.ofNat 0))], 0, 0, 3, [(0,3),(1,2),(2,2),(3,9),(4,24),(5,42),(6,43)], 104, true, .i64⟩
theorem y45ok : mkTy Tryz.prog 45 = some y45 ∧ zeroOk y45.zero = true := ⟨by kernel_rfl, by kernel_rfl⟩
def y46 : TyI := ⟨1, false, [.nilFunc], 0, 0, 0, [], 8, true, .i64⟩
theorem y46ok : mkTy Tryz.prog 46 = some y46 ∧ zeroOk y46.zero = true := ⟨by kernel_rfl, by kernel_rfl⟩
def y47 : TyI := ⟨1, false, [.nilFunc], 0, 0, 0, [], 8, true, .i64⟩
theorem y47ok : mkTy Tryz.prog 47 = some y47 ∧ zeroOk y47.zero = true := ⟨by kernel_rfl, by kernel_rfl⟩
def y48 : TyI := ⟨4, true, [(.int .i64 (.ofNat 0)), (.string ⟨#[]⟩), (.int .i64 (.ofNat 0)), (.bool false)], 0, 0, 3, [(0,23),(2,3),(3,4)], 40, true, .i64⟩
theorem y48ok : mkTy Tryz.prog 48 = some y48 ∧ zeroOk y48.zero = true := ⟨by kernel_rfl, by kernel_rfl⟩
def y49 : TyI := ⟨4, true, [(.int .i64 (.ofNat 0)), (.string ⟨#[]⟩), (.int .i64 (.ofNat 0)), (.bool false)], 0, 0, 3, [(0,23),(2,3),(3,4)], 40, true, .i64⟩
theorem y49ok : mkTy Tryz.prog 49 = some y49 ∧ zeroOk y49.zero = true := ⟨by kernel_rfl, by kernel_rfl⟩
def y50 : TyI := ⟨1, false, [.nilFunc], 0, 0, 0, [], 8, true, .i64⟩
theorem y50ok : mkTy Tryz.prog 50 = some y50 ∧ zeroOk y50.zero = true := ⟨by kernel_rfl, by kernel_rfl⟩
def y51 : TyI := ⟨1, false, [(.slice none 0 0)], 33, 0, 1, [], 24, true, .i64⟩
theorem y51ok : mkTy Tryz.prog 51 = some y51 ∧ zeroOk y51.zero = true := ⟨by kernel_rfl, by kernel_rfl⟩
def y52 : TyI := ⟨1, false, [.nilFunc], 0, 0, 0, [], 8, true, .i64⟩
theorem y52ok : mkTy Tryz.prog 52 = some y52 ∧ zeroOk y52.zero = true := ⟨by kernel_rfl, by kernel_rfl⟩
def y53 : TyI := ⟨1, false, [.nilFunc], 0, 0, 0, [], 8, true, .i64⟩
theorem y53ok : mkTy Tryz.prog 53 = some y53 ∧ zeroOk y53.zero = true := ⟨by kernel_rfl, by kernel_rfl⟩
def y54 : TyI := ⟨1, false, [.nilFunc], 0, 0, 0, [], 8, true, .i64⟩
theorem y54ok : mkTy Tryz.prog 54 = some y54 ∧ zeroOk y54.zero = true := ⟨by kernel_rfl, by kernel_rfl⟩
def y55 : TyI := ⟨1, false, [.nilFunc], 0, 0, 0, [], 8, true, .i64⟩
theorem y55ok : mkTy Tryz.prog 55 = some y55 ∧ zeroOk y55.zero = true := ⟨by kernel_rfl, by kernel_rfl⟩
def y56 : TyI := ⟨1, false, [.nilFunc], 0, 0, 0, [], 8, true, .i64⟩
theorem y56ok : mkTy Tryz.prog 56 = some y56 ∧ zeroOk y56.zero = true := ⟨by kernel_rfl, by kernel_rfl⟩
def y57 : TyI := ⟨1, false, [(.slice none 0 0)], 61, 0, 1, [], 24, true, .i64⟩
theorem y57ok : mkTy Tryz.prog 57 = some y57 ∧ zeroOk y57.zero = true := ⟨by kernel_rfl, by kernel_rfl⟩
def y58 : TyI := ⟨1, false, [(.slice none 0 0)], 23, 0, 1, [], 24, true, .i64⟩
theorem y58ok : mkTy Tryz.prog 58 = some y58 ∧ zeroOk y58.zero = true := ⟨by kernel_rfl, by kernel_rfl⟩
def y59 : TyI := ⟨1, false, [(.slice none 0 0)], 121, 0, 1, [], 24, true, .i64⟩
theorem y59ok : mkTy Tryz.prog 59 = some y59 ∧ zeroOk y59.zero = true := ⟨by kernel_rfl, by kernel_rfl⟩
def y60 : TyI := ⟨10, true, [(.int .i64 (.ofNat 0)), (.int .i64 (.ofNat 0)), (.string ⟨#[]⟩), (.string ⟨#[]⟩), (.slice none 0 0), (.slice none 0 0), (.slice none 0 0), (.slice none 0 0), (.int .i64 (.ofNat 0)), (.int .i64 (.ofNat 0))], 0, 0, 3, [(0,3),(1,2),(2,9),(3,9),(4,57),(5,58),(6,59),(7,33),(9,3)], 160, true, .i64⟩
theorem y60ok : mkTy Tryz.prog 60 = some y60 ∧ zeroOk y60.zero = true := ⟨by kernel_rfl, by kernel_rfl⟩
def y61 : TyI := ⟨10, true, [(.int .i64 (.ofNat 0)), (.int .i64 (.ofNat 0)), (.string ⟨#[]⟩), (.string ⟨#[]⟩), (.slice none 0 0), (.slice none 0 0), (.slice none 0 0), (.slice none 0 0), (.int .i64 (.ofNat 0)), (.int .i64 (.ofNat 0))], 0, 0, 3, [(0,3),(1,2),(2,9),(3,9),(4,57),(5,58),(6,59),(7,33),(9,3)], 160, true, .i64⟩
theorem y61ok : mkTy Tryz.prog 61 = some y61 ∧ zeroOk y61.zero = true := ⟨by kernel_rfl, by kernel_rfl⟩
def y62 : TyI := ⟨1, false, [(.int .i64 (.ofNat 0))], 0, 0, 6, [], 8, true, .i64⟩
theorem y62ok : mkTy Tryz.prog 62 = some y62 ∧ zeroOk y62.zero = true := ⟨by kernel_rfl, by kernel_rfl⟩
def y64 : TyI := ⟨1, false, [.nilFunc], 0, 0, 0, [], 8, true, .i64⟩
theorem y64ok : mkTy Tryz.prog 64 = some y64 ∧ zeroOk y64.zero = true := ⟨by kernel_rfl, by kernel_rfl⟩
def y65 : TyI := ⟨1, false, [.nilFunc], 0, 0, 0, [], 8, true, .i64⟩
theorem y65ok : mkTy Tryz.prog 65 = some y65 ∧ zeroOk y65.zero = true := ⟨by kernel_rfl, by kernel_rfl⟩
def y66 : TyI := ⟨1, false, [(.slice none 0 0)], 9, 0, 1, [], 24, true, .i64⟩
theorem y66ok : mkTy Tryz.prog 66 = some y66 ∧ zeroOk y66.zero = true := ⟨by kernel_rfl, by kernel_rfl⟩
def y67 : TyI := ⟨1, false, [.nilFunc], 0, 0, 0, [], 8, true, .i64⟩
theorem y67ok : mkTy Tryz.prog 67 = some y67 ∧ zeroOk y67.zero = true := ⟨by kernel_rfl, by kernel_rfl⟩
def y68 : TyI := ⟨1, false, [.nilFunc], 0, 0, 0, [], 8, true, .i64⟩
theorem y68ok : mkTy Tryz.prog 68 = some y68 ∧ zeroOk y68.zero = true := ⟨by kernel_rfl, by kernel_rfl⟩
def y69 : TyI := ⟨1, false, [.nilFunc], 0, 0, 0, [], 8, true, .i64⟩
theorem y69ok : mkTy Tryz.prog 69 = some y69 ∧ zeroOk y69.zero = true := ⟨by kernel_rfl, by kernel_rfl⟩
def y70 : TyI := ⟨1, false, [.nilFunc], 0, 0, 0, [], 8, true, .i64⟩
theorem y70ok : mkTy Tryz.prog 70 = some y70 ∧ zeroOk y70.zero = true := ⟨by kernel_rfl, by kernel_rfl⟩
def y72 : TyI := ⟨1, false, [.nilFunc], 0, 0, 0, [], 8, true, .i64⟩
theorem y72ok : mkTy Tryz.prog 72 = some y72 ∧ zeroOk y72.zero = true := ⟨by kernel_rfl, by kernel_rfl⟩
def y73 : TyI := ⟨1, false, [(.slice none 0 0)], 99, 0, 1, [], 24, true, .i64⟩
theorem y73ok : mkTy Tryz.prog 73 = some y73 ∧ zeroOk y73.zero = true := ⟨by kernel_rfl, by kernel_rfl⟩
def y75 : TyI := ⟨1, false, [.nilFunc], 0, 0, 0, [], 8, true, .i64⟩
theorem y75ok : mkTy Tryz.prog 75 = some y75 ∧ zeroOk y75.zero = true := ⟨by kernel_rfl, by kernel_rfl⟩
def y76 : TyI := ⟨1, false, [(.pointer none)], 0, 0, 8, [], 8, true, .i64⟩
theorem y76ok : mkTy Tryz.prog 76 = some y76 ∧ zeroOk y76.zero = true := ⟨by kernel_rfl, by kernel_rfl⟩
def y77 : TyI := ⟨6, true, [(.slice none 0 0), (.int .i64 (.ofNat 0)), (.int .i64 (.ofNat 0)), (.int .i64 (.ofNat 0)), (.int .i64 (.ofNat 0)), (.bool false)], 0, 0, 3, [(0,73),(1,3),(2,3),(3,62),(4,3),(5,4)], 64, true, .i64⟩
theorem y77ok : mkTy Tryz.prog 77 = some y77 ∧ zeroOk y77.zero = true := ⟨by kernel_rfl, by kernel_rfl⟩
def y78 : TyI := ⟨6, true, [(.slice none 0 0), (.int .i64 (.ofNat 0)), (.int .i64 (.ofNat 0)), (.int .i64 (.ofNat 0)), (.int .i64 (.ofNat 0)), (.bool false)], 0, 0, 3, [(0,73),(1,3),(2,3),(3,62),(4,3),(5,4)], 64, true, .i64⟩
theorem y78ok : mkTy Tryz.prog 78 = some y78 ∧ zeroOk y78.zero = true := ⟨by kernel_rfl, by kernel_rfl⟩
def y79 : TyI := ⟨1, false, [.nilFunc], 0, 0, 0, [], 8, true, .i64⟩
theorem y79ok : mkTy Tryz.prog 79 = some y79 ∧ zeroOk y79.zero = true := ⟨by kernel_rfl, by kernel_rfl⟩
def y80 : TyI := ⟨1, false, [.nilFunc], 0, 0, 0, [], 8, true, .i64⟩
theorem y80ok : mkTy Tryz.prog 80 = some y80 ∧ zeroOk y80.zero = true := ⟨by kernel_rfl, by kernel_rfl⟩
def y82 : TyI := ⟨1, false, [.nilFunc], 0, 0, 0, [], 8, true, .i64⟩
theorem y82ok : mkTy Tryz.prog 82 = some y82 ∧ zeroOk y82.zero = true := ⟨by kernel_rfl, by kernel_rfl⟩
def y83 : TyI := ⟨1, false, [.nilFunc], 0, 0, 0, [], 8, true, .i64⟩
theorem y83ok : mkTy Tryz.prog 83 = some y83 ∧ zeroOk y83.zero = true := ⟨by kernel_rfl, by kernel_rfl⟩
def y84 : TyI := ⟨3, true, [(.slice none 0 0), (.slice none 0 0), (.bool false)], 0, 0, 3, [(0,24),(1,24),(2,4)], 56, true, .i64⟩
theorem y84ok : mkTy Tryz.prog 84 = some y84 ∧ zeroOk y84.zero = true := ⟨by kernel_rfl, by kernel_rfl⟩
def y85 : TyI := ⟨3, true, [(.slice none 0 0), (.slice none 0 0), (.bool false)], 0, 0, 3, [(0,24),(1,24),(2,4)], 56, true, .i64⟩
theorem y85ok : mkTy Tryz.prog 85 = some y85 ∧ zeroOk y85.zero = true := ⟨by kernel_rfl, by kernel_rfl⟩
def y86 : TyI := ⟨1, false, [.nilFunc], 0, 0, 0, [], 8, true, .i64⟩
theorem y86ok : mkTy Tryz.prog 86 = some y86 ∧ zeroOk y86.zero = true := ⟨by kernel_rfl, by kernel_rfl⟩
def y87 : TyI := ⟨1, false, [.nilFunc], 0, 0, 0, [], 8, true, .i64⟩
theorem y87ok : mkTy Tryz.prog 87 = some y87 ∧ zeroOk y87.zero = true := ⟨by kernel_rfl, by kernel_rfl⟩
def y89 : TyI := ⟨1, false, [.nilFunc], 0, 0, 0, [], 8, true, .i64⟩
theorem y89ok : mkTy Tryz.prog 89 = some y89 ∧ zeroOk y89.zero = true := ⟨by kernel_rfl, by kernel_rfl⟩
def y90 : TyI := ⟨1, false, [(.int .u32 (.ofNat 0))], 0, 0, 6, [], 4, true, .u32⟩
theorem y90ok : mkTy Tryz.prog 90 = some y90 ∧ zeroOk y90.zero = true := ⟨by kernel_rfl, by kernel_rfl⟩
def y92 : TyI := ⟨1, false, [.nilFunc], 0, 0, 0, [], 8, true, .i64⟩
theorem y92ok : mkTy Tryz.prog 92 = some y92 ∧ zeroOk y92.zero = true := ⟨by kernel_rfl, by kernel_rfl⟩
def y93 : TyI := ⟨1, false, [(.int .u64 (.ofNat 0))], 0, 0, 6, [], 8, true, .u64⟩
theorem y93ok : mkTy Tryz.prog 93 = some y93 ∧ zeroOk y93.zero = true := ⟨by kernel_rfl, by kernel_rfl⟩
def y95 : TyI := ⟨1, false, [.nilFunc], 0, 0, 0, [], 8, true, .i64⟩
theorem y95ok : mkTy Tryz.prog 95 = some y95 ∧ zeroOk y95.zero = true := ⟨by kernel_rfl, by kernel_rfl⟩
def y96 : TyI := ⟨1, false, [.nilFunc], 0, 0, 0, [], 8, true, .i64⟩
theorem y96ok : mkTy Tryz.prog 96 = some y96 ∧ zeroOk y96.zero = true := ⟨by kernel_rfl, by kernel_rfl⟩
def y97 : TyI := ⟨1, false, [.nilFunc], 0, 0, 0, [], 8, true, .i64⟩
theorem y97ok : mkTy Tryz.prog 97 = some y97 ∧ zeroOk y97.zero = true := ⟨by kernel_rfl, by kernel_rfl⟩
def y98 : TyI := ⟨4, true, [(.int .i64 (.ofNat 0)), (.string ⟨#[]⟩), (.int .i64 (.ofNat 0)), (.int .i64 (.ofNat 0))], 0, 0, 3, [(0,3),(1,9),(2,2),(3,3)], 40, true, .i64⟩
theorem y98ok : mkTy Tryz.prog 98 = some y98 ∧ zeroOk y98.zero = true := ⟨by kernel_rfl, by kernel_rfl⟩
def y99 : TyI := ⟨4, true, [(.int .i64 (.ofNat 0)), (.string ⟨#[]⟩), (.int .i64 (.ofNat 0)), (.int .i64 (.ofNat 0))], 0, 0, 3, [(0,3),(1,9),(2,2),(3,3)], 40, true, .i64⟩
theorem y99ok : mkTy Tryz.prog 99 = some y99 ∧ zeroOk y99.zero = true := ⟨by kernel_rfl, by kernel_rfl⟩
def y101 : TyI := ⟨1, false, [.nilFunc], 0, 0, 0, [], 8, true, .i64⟩
theorem y101ok : mkTy Tryz.prog 101 = some y101 ∧ zeroOk y101.zero = true := ⟨by kernel_rfl, by kernel_rfl⟩
def y102 : TyI := ⟨1, false, [.nilFunc], 0, 0, 0, [], 8, true, .i64⟩
theorem y102ok : mkTy Tryz.prog 102 = some y102 ∧ zeroOk y102.zero = true := ⟨by kernel_rfl, by kernel_rfl⟩
def y103 : TyI := ⟨1, false, [.nilFunc], 0, 0, 0, [], 8, true, .i64⟩
theorem y103ok : mkTy Tryz.prog 103 = some y103 ∧ zeroOk y103.zero = true := ⟨by kernel_rfl, by kernel_rfl⟩
def y104 : TyI := ⟨1, false, [.nilFunc], 0, 0, 0, [], 8, true, .i64⟩
theorem y104ok : mkTy Tryz.prog 104 = some y104 ∧ zeroOk y104.zero = true := ⟨by kernel_rfl, by kernel_rfl⟩
def y105 : TyI := ⟨1, false, [.nilFunc], 0, 0, 0, [], 8, true, .i64⟩
theorem y105ok : mkTy Tryz.prog 105 = some y105 ∧ zeroOk y105.zero = true := ⟨by kernel_rfl, by kernel_rfl⟩
def y106 : TyI := ⟨1, false, [.nilFunc], 0, 0, 0, [], 8, true, .i64⟩
theorem y106ok : mkTy Tryz.prog 106 = some y106 ∧ zeroOk y106.zero = true := ⟨by kernel_rfl, by kernel_rfl⟩
def y107 : TyI := ⟨1, false, [.nilFunc], 0, 0, 0, [], 8, true, .i64⟩
theorem y107ok : mkTy Tryz.prog 107 = some y107 ∧ zeroOk y107.zero = true := ⟨by kernel_rfl, by kernel_rfl⟩
def y108 : TyI := ⟨2, true, [(.string ⟨#[]⟩), (.int .i64 (.ofNat 0))], 0, 0, 3, [(0,9),(1,3)], 24, true, .i64⟩
theorem y108ok : mkTy Tryz.prog 108 = some y108 ∧ zeroOk y108.zero = true := ⟨by kernel_rfl, by kernel_rfl⟩
def y109 : TyI := ⟨2, true, [(.string ⟨#[]⟩), (.int .i64 (.ofNat 0))], 0, 0, 3, [(0,9),(1,3)], 24, true, .i64⟩
theorem y109ok : mkTy Tryz.prog 109 = some y109 ∧ zeroOk y109.zero = true := ⟨by kernel_rfl, by kernel_rfl⟩
def y110 : TyI := ⟨1, false, [.nilFunc], 0, 0, 0, [], 8, true, .i64⟩
theorem y110ok : mkTy Tryz.prog 110 = some y110 ∧ zeroOk y110.zero = true := ⟨by kernel_rfl, by kernel_rfl⟩
def y111 : TyI := ⟨1, false, [.nilFunc], 0, 0, 0, [], 8, true, .i64⟩
theorem y111ok : mkTy Tryz.prog 111 = some y111 ∧ zeroOk y111.zero = true := ⟨by kernel_rfl, by kernel_rfl⟩
def y112 : TyI := ⟨1, false, [.nilFunc], 0, 0, 0, [], 8, true, .i64⟩
theorem y112ok : mkTy Tryz.prog 112 = some y112 ∧ zeroOk y112.zero = true := ⟨by kernel_rfl, by kernel_rfl⟩
def y113 : TyI := ⟨1, false, [.nilFunc], 0, 0, 0, [], 8, true, .i64⟩
theorem y113ok : mkTy Tryz.prog 113 = some y113 ∧ zeroOk y113.zero = true := ⟨by kernel_rfl, by kernel_rfl⟩
def y115 : TyI := ⟨1, false, [.nilFunc], 0, 0, 0, [], 8, true, .i64⟩
theorem y115ok : mkTy Tryz.prog 115 = some y115 ∧ zeroOk y115.zero = true := ⟨by kernel_rfl, by kernel_rfl⟩
def y116 : TyI := ⟨1, false, [(.slice none 0 0)], 123, 0, 1, [], 24, true, .i64⟩
theorem y116ok : mkTy Tryz.prog 116 = some y116 ∧ zeroOk y116.zero = true := ⟨by kernel_rfl, by kernel_rfl⟩
def y117 : TyI := ⟨1, false, [(.slice none 0 0)], 119, 0, 1, [], 24, true, .i64⟩
theorem y117ok : mkTy Tryz.prog 117 = some y117 ∧ zeroOk y117.zero = true := ⟨by kernel_rfl, by kernel_rfl⟩
def y118 : TyI := ⟨7, true, [(.int .i64 (.ofNat 0)), (.string ⟨#[]⟩), (.int .i64 (.ofNat 0)), (.string ⟨#[]⟩), (.int .i64 (.ofNat 0)), (.string ⟨#[]⟩), (.slice none 0 0)], 0, 0, 3, [(0,3),(1,9),(2,2),(3,9),(4,23),(6,117)], 96, true, .i64⟩
theorem y118ok : mkTy Tryz.prog 118 = some y118 ∧ zeroOk y118.zero = true := ⟨by kernel_rfl, by kernel_rfl⟩
def y119 : TyI := ⟨7, true, [(.int .i64 (.ofNat 0)), (.string ⟨#[]⟩), (.int .i64 (.ofNat 0)), (.string ⟨#[]⟩), (.int .i64 (.ofNat 0)), (.string ⟨#[]⟩), (.slice none 0 0)], 0, 0, 3, [(0,3),(1,9),(2,2),(3,9),(4,23),(6,117)], 96, true, .i64⟩
theorem y119ok : mkTy Tryz.prog 119 = some y119 ∧ zeroOk y119.zero = true := ⟨by kernel_rfl, by kernel_rfl⟩
def y120 : TyI := ⟨19, true, [(.slice none 0 0), (.int .i64 (.ofNat 0)), (.string ⟨#[]⟩), (.int .i64 (.ofNat 0)), (.string ⟨#[]⟩), (.int .i64 (.ofNat 0)), (.string ⟨#[]⟩), (.slice none 0 0), (.int .i64 (.ofNat 0)), (.int .i64 (.ofNat 0)), (.string ⟨#[]⟩), (.string ⟨#[]⟩), (.slice none 0 0), (.slice none 0 0), (.slice none 0 0), (.slice none 0 0), (.int .i64 (.ofNat 0)), (.int .i64 (.ofNat 0)), (.int .i64 (.ofNat 0))], 0, 0, 3, [(0,116),(1,119),(8,61),(18,3)], 288, true, .i64⟩
theorem y120ok : mkTy Tryz.prog 120 = some y120 ∧ zeroOk y120.zero = true := ⟨by kernel_rfl, by kernel_rfl⟩
def y121 : TyI := ⟨19, true, [(.slice none 0 0), (.int .i64 (.ofNat 0)), (.string ⟨#[]⟩), (.int .i64 (.ofNat 0)), (.string ⟨#[]⟩), (.int .i64 (.ofNat 0)), (.string ⟨#[]⟩), (.slice none 0 0), (.int .i64 (.ofNat 0)), (.int .i64 (.ofNat 0)), (.string ⟨#[]⟩), (.string ⟨#[]⟩), (.slice none 0 0), (.slice none 0 0), (.slice none 0 0), (.slice none 0 0), (.int .i64 (.ofNat 0)), (.int .i64 (.ofNat 0)), (.int .i64 (.ofNat 0))], 0, 0, 3, [(0,116),(1,119),(8,61),(18,3)], 288, true, .i64⟩
theorem y121ok : mkTy Tryz.prog 121 = some y121 ∧ zeroOk y121.zero = true := ⟨by kernel_rfl, by kernel_rfl⟩
def y122 : TyI := ⟨5, true, [(.int .i64 (.ofNat 0)), (.int .i64 (.ofNat 0)), (.string ⟨#[]⟩), (.slice none 0 0), (.slice none 0 0)], 0, 0, 3, [(0,3),(1,2),(2,9),(3,116),(4,58)], 80, true, .i64⟩
theorem y122ok : mkTy Tryz.prog 122 = some y122 ∧ zeroOk y122.zero = true := ⟨by kernel_rfl, by kernel_rfl⟩
def y123 : TyI := ⟨5, true, [(.int .i64 (.ofNat 0)), (.int .i64 (.ofNat 0)), (.string ⟨#[]⟩), (.slice none 0 0), (.slice none 0 0)], 0, 0, 3, [(0,3),(1,2),(2,9),(3,116),(4,58)], 80, true, .i64⟩
theorem y123ok : mkTy Tryz.prog 123 = some y123 ∧ zeroOk y123.zero = true := ⟨by kernel_rfl, by kernel_rfl⟩
def y124 : TyI := ⟨1, false, [.nilFunc], 0, 0, 0, [], 8, true, .i64⟩
theorem y124ok : mkTy Tryz.prog 124 = some y124 ∧ zeroOk y124.zero = true := ⟨by kernel_rfl, by kernel_rfl⟩
def y125 : TyI := ⟨1, false, [.nilFunc], 0, 0, 0, [], 8, true, .i64⟩
theorem y125ok : mkTy Tryz.prog 125 = some y125 ∧ zeroOk y125.zero = true := ⟨by kernel_rfl, by kernel_rfl⟩
def y126 : TyI := ⟨1, false, [.nilFunc], 0, 0, 0, [], 8, true, .i64⟩
theorem y126ok : mkTy Tryz.prog 126 = some y126 ∧ zeroOk y126.zero = true := ⟨by kernel_rfl, by kernel_rfl⟩
def y127 : TyI := ⟨1, false, [.nilFunc], 0, 0, 0, [], 8, true, .i64⟩
theorem y127ok : mkTy Tryz.prog 127 = some y127 ∧ zeroOk y127.zero = true := ⟨by kernel_rfl, by kernel_rfl⟩
def y128 : TyI := ⟨1, false, [.nilFunc], 0, 0, 0, [], 8, true, .i64⟩
theorem y128ok : mkTy Tryz.prog 128 = some y128 ∧ zeroOk y128.zero = true := ⟨by kernel_rfl, by kernel_rfl⟩
def y129 : TyI := ⟨1, false, [.nilFunc], 0, 0, 0, [], 8, true, .i64⟩
theorem y129ok : mkTy Tryz.prog 129 = some y129 ∧ zeroOk y129.zero = true := ⟨by kernel_rfl, by kernel_rfl⟩
def y130 : TyI := ⟨1, false, [.nilFunc], 0, 0, 0, [], 8, true, .i64⟩
theorem y130ok : mkTy Tryz.prog 130 = some y130 ∧ zeroOk y130.zero = true := ⟨by kernel_rfl, by kernel_rfl⟩
def y131 : TyI := ⟨1, false, [(.pointer none)], 0, 0, 8, [], 8, true, .i64⟩
theorem y131ok : mkTy Tryz.prog 131 = some y131 ∧ zeroOk y131.zero = true := ⟨by kernel_rfl, by kernel_rfl⟩
def y132 : TyI := ⟨1, false, [(.slice none 0 0)], 85, 0, 1, [], 24, true, .i64⟩
theorem y132ok : mkTy Tryz.prog 132 = some y132 ∧ zeroOk y132.zero = true := ⟨by kernel_rfl, by kernel_rfl⟩
def y133 : TyI := ⟨1, false, [(.slice none 0 0)], 163, 0, 1, [], 24, true, .i64⟩
theorem y133ok : mkTy Tryz.prog 133 = some y133 ∧ zeroOk y133.zero = true := ⟨by kernel_rfl, by kernel_rfl⟩
def y134 : TyI := ⟨5, true, [(.slice none 0 0), (.int .i64 (.ofNat 0)), (.slice none 0 0), (.slice none 0 0), (.slice none 0 0)], 0, 0, 3, [(0,33),(2,132),(3,133),(4,24)], 104, true, .i64⟩
theorem y134ok : mkTy Tryz.prog 134 = some y134 ∧ zeroOk y134.zero = true := ⟨by kernel_rfl, by kernel_rfl⟩
def y135 : TyI := ⟨5, true, [(.slice none 0 0), (.int .i64 (.ofNat 0)), (.slice none 0 0), (.slice none 0 0), (.slice none 0 0)], 0, 0, 3, [(0,33),(2,132),(3,133),(4,24)], 104, true, .i64⟩
theorem y135ok : mkTy Tryz.prog 135 = some y135 ∧ zeroOk y135.zero = true := ⟨by kernel_rfl, by kernel_rfl⟩
def y136 : TyI := ⟨1, false, [.nilFunc], 0, 0, 0, [], 8, true, .i64⟩
theorem y136ok : mkTy Tryz.prog 136 = some y136 ∧ zeroOk y136.zero = true := ⟨by kernel_rfl, by kernel_rfl⟩
def y137 : TyI := ⟨1, false, [.nilFunc], 0, 0, 0, [], 8, true, .i64⟩
theorem y137ok : mkTy Tryz.prog 137 = some y137 ∧ zeroOk y137.zero = true := ⟨by kernel_rfl, by kernel_rfl⟩
def y138 : TyI := ⟨1, false, [.nilFunc], 0, 0, 0, [], 8, true, .i64⟩
theorem y138ok : mkTy Tryz.prog 138 = some y138 ∧ zeroOk y138.zero = true := ⟨by kernel_rfl, by kernel_rfl⟩
def y139 : TyI := ⟨1, false, [.nilFunc], 0, 0, 0, [], 8, true, .i64⟩
theorem y139ok : mkTy Tryz.prog 139 = some y139 ∧ zeroOk y139.zero = true := ⟨by kernel_rfl, by kernel_rfl⟩
def y141 : TyI := ⟨1, false, [.nilFunc], 0, 0, 0, [], 8, true, .i64⟩
theorem y141ok : mkTy Tryz.prog 141 = some y141 ∧ zeroOk y141.zero = true := ⟨by kernel_rfl, by kernel_rfl⟩
def y143 : TyI := ⟨1, false, [.nilFunc], 0, 0, 0, [], 8, true, .i64⟩
theorem y143ok : mkTy Tryz.prog 143 = some y143 ∧ zeroOk y143.zero = true := ⟨by kernel_rfl, by kernel_rfl⟩
def y144 : TyI := ⟨1, false, [.nilFunc], 0, 0, 0, [], 8, true, .i64⟩
theorem y144ok : mkTy Tryz.prog 144 = some y144 ∧ zeroOk y144.zero = true := ⟨by kernel_rfl, by kernel_rfl⟩
def y145 : TyI := ⟨1, false, [.nilFunc], 0, 0, 0, [], 8, true, .i64⟩
theorem y145ok : mkTy Tryz.prog 145 = some y145 ∧ zeroOk y145.zero = true := ⟨by kernel_rfl, by kernel_rfl⟩
def y146 : TyI := ⟨1, false, [.nilFunc], 0, 0, 0, [], 8, true, .i64⟩
theorem y146ok : mkTy Tryz.prog 146 = some y146 ∧ zeroOk y146.zero = true := ⟨by kernel_rfl, by kernel_rfl⟩
def y147 : TyI := ⟨1, false, [.nilFunc], 0, 0, 0, [], 8, true, .i64⟩
theorem y147ok : mkTy Tryz.prog 147 = some y147 ∧ zeroOk y147.zero = true := ⟨by kernel_rfl, by kernel_rfl⟩
def y148 : TyI := ⟨1, false, [.nilFunc], 0, 0, 0, [], 8, true, .i64⟩
theorem y148ok : mkTy Tryz.prog 148 = some y148 ∧ zeroOk y148.zero = true := ⟨by kernel_rfl, by kernel_rfl⟩
def y149 : TyI := ⟨1, false, [.nilFunc], 0, 0, 0, [], 8, true, .i64⟩
theorem y149ok : mkTy Tryz.prog 149 = some y149 ∧ zeroOk y149.zero = true := ⟨by kernel_rfl, by kernel_rfl⟩
def y150 : TyI := ⟨1, false, [.nilFunc], 0, 0, 0, [], 8, true, .i64⟩
theorem y150ok : mkTy Tryz.prog 150 = some y150 ∧ zeroOk y150.zero = true := ⟨by kernel_rfl, by kernel_rfl⟩
def y152 : TyI := ⟨1, false, [.nilFunc], 0, 0, 0, [], 8, true, .i64⟩
theorem y152ok : mkTy Tryz.prog 152 = some y152 ∧ zeroOk y152.zero = true := ⟨by kernel_rfl, by kernel_rfl⟩
def y153 : TyI := ⟨1, false, [.nilFunc], 0, 0, 0, [], 8, true, .i64⟩
theorem y153ok : mkTy Tryz.prog 153 = some y153 ∧ zeroOk y153.zero = true := ⟨by kernel_rfl, by kernel_rfl⟩
def y154 : TyI := ⟨1, false, [.nilFunc], 0, 0, 0, [], 8, true, .i64⟩
theorem y154ok : mkTy Tryz.prog 154 = some y154 ∧ zeroOk y154.zero = true := ⟨by kernel_rfl, by kernel_rfl⟩
def y155 : TyI := ⟨1, false, [.nilFunc], 0, 0, 0, [], 8, true, .i64⟩
theorem y155ok : mkTy Tryz.prog 155 = some y155 ∧ zeroOk y155.zero = true := ⟨by kernel_rfl, by kernel_rfl⟩
def y156 : TyI := ⟨1, false, [.nilFunc], 0, 0, 0, [], 8, true, .i64⟩
theorem y156ok : mkTy Tryz.prog 156 = some y156 ∧ zeroOk y156.zero = true := ⟨by kernel_rfl, by kernel_rfl⟩
def y157 : TyI := ⟨1, false, [.nilFunc], 0, 0, 0, [], 8, true, .i64⟩
theorem y157ok : mkTy Tryz.prog 157 = some y157 ∧ zeroOk y157.zero = true := ⟨by kernel_rfl, by kernel_rfl⟩
def y158 : TyI := ⟨1, false, [.nilFunc], 0, 0, 0, [], 8, true, .i64⟩
theorem y158ok : mkTy Tryz.prog 158 = some y158 ∧ zeroOk y158.zero = true := ⟨by kernel_rfl, by kernel_rfl⟩
def y159 : TyI := ⟨1, false, [(.slice none 0 0)], 4, 0, 1, [], 24, true, .i64⟩
theorem y159ok : mkTy Tryz.prog 159 = some y159 ∧ zeroOk y159.zero = true := ⟨by kernel_rfl, by kernel_rfl⟩
def y160 : TyI := ⟨1, false, [.nilFunc], 0, 0, 0, [], 8, true, .i64⟩
theorem y160ok : mkTy Tryz.prog 160 = some y160 ∧ zeroOk y160.zero = true := ⟨by kernel_rfl, by kernel_rfl⟩
def y161 : TyI := ⟨1, false, [.nilFunc], 0, 0, 0, [], 8, true, .i64⟩
theorem y161ok : mkTy Tryz.prog 161 = some y161 ∧ zeroOk y161.zero = true := ⟨by kernel_rfl, by kernel_rfl⟩
def y162 : TyI := ⟨1, false, [.nilFunc], 0, 0, 0, [], 8, true, .i64⟩
theorem y162ok : mkTy Tryz.prog 162 = some y162 ∧ zeroOk y162.zero = true := ⟨by kernel_rfl, by kernel_rfl⟩
def y163 : TyI := ⟨1, false, [(.slice none 0 0)], 167, 0, 1, [], 24, true, .i64⟩
theorem y163ok : mkTy Tryz.prog 163 = some y163 ∧ zeroOk y163.zero = true := ⟨by kernel_rfl, by kernel_rfl⟩
def y164 : TyI := ⟨1, false, [.nilFunc], 0, 0, 0, [], 8, true, .i64⟩
theorem y164ok : mkTy Tryz.prog 164 = some y164 ∧ zeroOk y164.zero = true := ⟨by kernel_rfl, by kernel_rfl⟩
def y165 : TyI := ⟨1, false, [(.slice none 0 0)], 168, 0, 1, [], 24, true, .i64⟩
theorem y165ok : mkTy Tryz.prog 165 = some y165 ∧ zeroOk y165.zero = true := ⟨by kernel_rfl, by kernel_rfl⟩
def y166 : TyI := ⟨3, true, [(.int .i64 (.ofNat 0)), (.int .i64 (.ofNat 0)), (.slice none 0 0)], 0, 0, 3, [(0,3),(1,3),(2,165)], 40, true, .i64⟩
theorem y166ok : mkTy Tryz.prog 166 = some y166 ∧ zeroOk y166.zero = true := ⟨by kernel_rfl, by kernel_rfl⟩
def y167 : TyI := ⟨3, true, [(.int .i64 (.ofNat 0)), (.int .i64 (.ofNat 0)), (.slice none 0 0)], 0, 0, 3, [(0,3),(1,3),(2,165)], 40, true, .i64⟩
theorem y167ok : mkTy Tryz.prog 167 = some y167 ∧ zeroOk y167.zero = true := ⟨by kernel_rfl, by kernel_rfl⟩
def y168 : TyI := ⟨1, false, [(.slice none 0 0)], 132, 0, 1, [], 24, true, .i64⟩
theorem y168ok : mkTy Tryz.prog 168 = some y168 ∧ zeroOk y168.zero = true := ⟨by kernel_rfl, by kernel_rfl⟩
def y169 : TyI := ⟨1, false, [.nilFunc], 0, 0, 0, [], 8, true, .i64⟩
theorem y169ok : mkTy Tryz.prog 169 = some y169 ∧ zeroOk y169.zero = true := ⟨by kernel_rfl, by kernel_rfl⟩
def y170 : TyI := ⟨1, false, [.nilFunc], 0, 0, 0, [], 8, true, .i64⟩
theorem y170ok : mkTy Tryz.prog 170 = some y170 ∧ zeroOk y170.zero = true := ⟨by kernel_rfl, by kernel_rfl⟩
def y171 : TyI := ⟨1, false, [(.slice none 0 0)], 5, 0, 1, [], 24, true, .i64⟩
theorem y171ok : mkTy Tryz.prog 171 = some y171 ∧ zeroOk y171.zero = true := ⟨by kernel_rfl, by kernel_rfl⟩
def y172 : TyI := ⟨1, false, [.nilFunc], 0, 0, 0, [], 8, true, .i64⟩
theorem y172ok : mkTy Tryz.prog 172 = some y172 ∧ zeroOk y172.zero = true := ⟨by kernel_rfl, by kernel_rfl⟩
def y173 : TyI := ⟨1, false, [.nilFunc], 0, 0, 0, [], 8, true, .i64⟩
theorem y173ok : mkTy Tryz.prog 173 = some y173 ∧ zeroOk y173.zero = true := ⟨by kernel_rfl, by kernel_rfl⟩
def y174 : TyI := ⟨1, false, [.nilFunc], 0, 0, 0, [], 8, true, .i64⟩
theorem y174ok : mkTy Tryz.prog 174 = some y174 ∧ zeroOk y174.zero = true := ⟨by kernel_rfl, by kernel_rfl⟩
def y175 : TyI := ⟨1, false, [.nilFunc], 0, 0, 0, [], 8, true, .i64⟩
theorem y175ok : mkTy Tryz.prog 175 = some y175 ∧ zeroOk y175.zero = true := ⟨by kernel_rfl, by kernel_rfl⟩
def y176 : TyI := ⟨1, false, [.nilFunc], 0, 0, 0, [], 8, true, .i64⟩
theorem y176ok : mkTy Tryz.prog 176 = some y176 ∧ zeroOk y176.zero = true := ⟨by kernel_rfl, by kernel_rfl⟩
def y177 : TyI := ⟨1, false, [.nilFunc], 0, 0, 0, [], 8, true, .i64⟩
theorem y177ok : mkTy Tryz.prog 177 = some y177 ∧ zeroOk y177.zero = true := ⟨by kernel_rfl, by kernel_rfl⟩
def y179 : TyI := ⟨1, false, [.nilFunc], 0, 0, 0, [], 8, true, .i64⟩
theorem y179ok : mkTy Tryz.prog 179 = some y179 ∧ zeroOk y179.zero = true := ⟨by kernel_rfl, by kernel_rfl⟩
def y180 : TyI := ⟨1, false, [.nilFunc], 0, 0, 0, [], 8, true, .i64⟩
theorem y180ok : mkTy Tryz.prog 180 = some y180 ∧ zeroOk y180.zero = true := ⟨by kernel_rfl, by kernel_rfl⟩
def y181 : TyI := ⟨1, false, [.nilFunc], 0, 0, 0, [], 8, true, .i64⟩
theorem y181ok : mkTy Tryz.prog 181 = some y181 ∧ zeroOk y181.zero = true := ⟨by kernel_rfl, by kernel_rfl⟩
def y182 : TyI := ⟨1, false, [.nilFunc], 0, 0, 0, [], 8, true, .i64⟩
theorem y182ok : mkTy Tryz.prog 182 = some y182 ∧ zeroOk y182.zero = true := ⟨by kernel_rfl, by kernel_rfl⟩
def y183 : TyI := ⟨1, false, [(.slice none 0 0)], 186, 0, 1, [], 24, true, .i64⟩
theorem y183ok : mkTy Tryz.prog 183 = some y183 ∧ zeroOk y183.zero = true := ⟨by kernel_rfl, by kernel_rfl⟩
def y184 : TyI := ⟨1, false, [.nilFunc], 0, 0, 0, [], 8, true, .i64⟩
theorem y184ok : mkTy Tryz.prog 184 = some y184 ∧ zeroOk y184.zero = true := ⟨by kernel_rfl, by kernel_rfl⟩
def y185 : TyI := ⟨2, true, [(.slice none 0 0), (.slice none 0 0)], 0, 0, 3, [(0,24),(1,24)], 48, true, .i64⟩
theorem y185ok : mkTy Tryz.prog 185 = some y185 ∧ zeroOk y185.zero = true := ⟨by kernel_rfl, by kernel_rfl⟩
def y186 : TyI := ⟨2, true, [(.slice none 0 0), (.slice none 0 0)], 0, 0, 3, [(0,24),(1,24)], 48, true, .i64⟩
theorem y186ok : mkTy Tryz.prog 186 = some y186 ∧ zeroOk y186.zero = true := ⟨by kernel_rfl, by kernel_rfl⟩
def y187 : TyI := ⟨1, false, [.nilFunc], 0, 0, 0, [], 8, true, .i64⟩
theorem y187ok : mkTy Tryz.prog 187 = some y187 ∧ zeroOk y187.zero = true := ⟨by kernel_rfl, by kernel_rfl⟩
def y188 : TyI := ⟨1, false, [.nilFunc], 0, 0, 0, [], 8, true, .i64⟩
theorem y188ok : mkTy Tryz.prog 188 = some y188 ∧ zeroOk y188.zero = true := ⟨by kernel_rfl, by kernel_rfl⟩
def y189 : TyI := ⟨2, true, [(.int .i64 (.ofNat 0)), (.int .i64 (.ofNat 0))], 0, 0, 3, [(0,3),(1,3)], 16, true, .i64⟩
theorem y189ok : mkTy Tryz.prog 189 = some y189 ∧ zeroOk y189.zero = true := ⟨by kernel_rfl, by kernel_rfl⟩
def y190 : TyI := ⟨2, true, [(.int .i64 (.ofNat 0)), (.int .i64 (.ofNat 0))], 0, 0, 3, [(0,3),(1,3)], 16, true, .i64⟩
theorem y190ok : mkTy Tryz.prog 190 = some y190 ∧ zeroOk y190.zero = true := ⟨by kernel_rfl, by kernel_rfl⟩
def y191 : TyI := ⟨1, false, [.nilFunc], 0, 0, 0, [], 8, true, .i64⟩
theorem y191ok : mkTy Tryz.prog 191 = some y191 ∧ zeroOk y191.zero = true := ⟨by kernel_rfl, by kernel_rfl⟩
def y192 : TyI := ⟨1, false, [.nilFunc], 0, 0, 0, [], 8, true, .i64⟩
theorem y192ok : mkTy Tryz.prog 192 = some y192 ∧ zeroOk y192.zero = true := ⟨by kernel_rfl, by kernel_rfl⟩
def y193 : TyI := ⟨1, false, [.nilFunc], 0, 0, 0, [], 8, true, .i64⟩
theorem y193ok : mkTy Tryz.prog 193 = some y193 ∧ zeroOk y193.zero = true := ⟨by kernel_rfl, by kernel_rfl⟩
def y194 : TyI := ⟨1, false, [.nilFunc], 0, 0, 0, [], 8, true, .i64⟩
theorem y194ok : mkTy Tryz.prog 194 = some y194 ∧ zeroOk y194.zero = true := ⟨by kernel_rfl, by kernel_rfl⟩
def y195 : TyI := ⟨1, false, [.nilFunc], 0, 0, 0, [], 8, true, .i64⟩
theorem y195ok : mkTy Tryz.prog 195 = some y195 ∧ zeroOk y195.zero = true := ⟨by kernel_rfl, by kernel_rfl⟩
def y196 : TyI := ⟨1, false, [.nilFunc], 0, 0, 0, [], 8, true, .i64⟩
theorem y196ok : mkTy Tryz.prog 196 = some y196 ∧ zeroOk y196.zero = true := ⟨by kernel_rfl, by kernel_rfl⟩
def y197 : TyI := ⟨1, false, [(.slice none 0 0)], 215, 0, 1, [], 24, true, .i64⟩
theorem y197ok : mkTy Tryz.prog 197 = some y197 ∧ zeroOk y197.zero = true := ⟨by kernel_rfl, by kernel_rfl⟩
def y199 : TyI := ⟨1, false, [.nilFunc], 0, 0, 0, [], 8, true, .i64⟩
theorem y199ok : mkTy Tryz.prog 199 = some y199 ∧ zeroOk y199.zero = true := ⟨by kernel_rfl, by kernel_rfl⟩
def y200 : TyI := ⟨1, false, [(.pointer none)], 0, 0, 8, [], 8, true, .i64⟩
theorem y200ok : mkTy Tryz.prog 200 = some y200 ∧ zeroOk y200.zero = true := ⟨by kernel_rfl, by kernel_rfl⟩
def y201 : TyI := ⟨12, true, [(.slice none 0 0), (.int .i64 (.ofNat 0)), (.bool false), (.bool false), (.bool false), (.int .i64 (.ofNat 0)), (.slice none 0 0), (.int .i64 (.ofNat 0)), (.slice none 0 0), (.slice none 0 0), (.slice none 0 0), (.slice none 0 0)], 0, 0, 3, [(0,197),(1,3),(2,4),(3,4),(4,4),(5,3),(6,33),(8,66),(9,24),(10,159),(11,66)], 176, true, .i64⟩
theorem y201ok : mkTy Tryz.prog 201 = some y201 ∧ zeroOk y201.zero = true := ⟨by kernel_rfl, by kernel_rfl⟩
def y202 : TyI := ⟨12, true, [(.slice none 0 0), (.int .i64 (.ofNat 0)), (.bool false), (.bool false), (.bool false), (.int .i64 (.ofNat 0)), (.slice none 0 0), (.int .i64 (.ofNat 0)), (.slice none 0 0), (.slice none 0 0), (.slice none 0 0), (.slice none 0 0)], 0, 0, 3, [(0,197),(1,3),(2,4),(3,4),(4,4),(5,3),(6,33),(8,66),(9,24),(10,159),(11,66)], 176, true, .i64⟩
theorem y202ok : mkTy Tryz.prog 202 = some y202 ∧ zeroOk y202.zero = true := ⟨by kernel_rfl, by kernel_rfl⟩
def y203 : TyI := ⟨1, false, [.nilFunc], 0, 0, 0, [], 8, true, .i64⟩
theorem y203ok : mkTy Tryz.prog 203 = some y203 ∧ zeroOk y203.zero = true := ⟨by kernel_rfl, by kernel_rfl⟩
def y204 : TyI := ⟨1, false, [.nilFunc], 0, 0, 0, [], 8, true, .i64⟩
theorem y204ok : mkTy Tryz.prog 204 = some y204 ∧ zeroOk y204.zero = true := ⟨by kernel_rfl, by kernel_rfl⟩
def y205 : TyI := ⟨1, false, [.nilFunc], 0, 0, 0, [], 8, true, .i64⟩
theorem y205ok : mkTy Tryz.prog 205 = some y205 ∧ zeroOk y205.zero = true := ⟨by kernel_rfl, by kernel_rfl⟩
def y206 : TyI := ⟨1, false, [.nilFunc], 0, 0, 0, [], 8, true, .i64⟩
theorem y206ok : mkTy Tryz.prog 206 = some y206 ∧ zeroOk y206.zero = true := ⟨by kernel_rfl, by kernel_rfl⟩
def y207 : TyI := ⟨1, false, [(.slice none 0 0)], 235, 0, 1, [], 24, true, .i64⟩
theorem y207ok : mkTy Tryz.prog 207 = some y207 ∧ zeroOk y207.zero = true := ⟨by kernel_rfl, by kernel_rfl⟩
def y208 : TyI := ⟨1, false, [.nilFunc], 0, 0, 0, [], 8, true, .i64⟩
theorem y208ok : mkTy Tryz.prog 208 = some y208 ∧ zeroOk y208.zero = true := ⟨by kernel_rfl, by kernel_rfl⟩
def y209 : TyI := ⟨1, false, [.nilFunc], 0, 0, 0, [], 8, true, .i64⟩
theorem y209ok : mkTy Tryz.prog 209 = some y209 ∧ zeroOk y209.zero = true := ⟨by kernel_rfl, by kernel_rfl⟩
def y210 : TyI := ⟨1, false, [.nilFunc], 0, 0, 0, [], 8, true, .i64⟩
theorem y210ok : mkTy Tryz.prog 210 = some y210 ∧ zeroOk y210.zero = true := ⟨by kernel_rfl, by kernel_rfl⟩
def y211 : TyI := ⟨1, false, [.nilFunc], 0, 0, 0, [], 8, true, .i64⟩
theorem y211ok : mkTy Tryz.prog 211 = some y211 ∧ zeroOk y211.zero = true := ⟨by kernel_rfl, by kernel_rfl⟩
def y212 : TyI := ⟨1, false, [.nilFunc], 0, 0, 0, [], 8, true, .i64⟩
theorem y212ok : mkTy Tryz.prog 212 = some y212 ∧ zeroOk y212.zero = true := ⟨by kernel_rfl, by kernel_rfl⟩
def y213 : TyI := ⟨1, false, [.nilFunc], 0, 0, 0, [], 8, true, .i64⟩
theorem y213ok : mkTy Tryz.prog 213 = some y213 ∧ zeroOk y213.zero = true := ⟨by kernel_rfl, by kernel_rfl⟩
def y214 : TyI := ⟨1, false, [.nilFunc], 0, 0, 0, [], 8, true, .i64⟩
theorem y214ok : mkTy Tryz.prog 214 = some y214 ∧ zeroOk y214.zero = true := ⟨by kernel_rfl, by kernel_rfl⟩
def y215 : TyI := ⟨2, true, [(.int .i64 (.ofNat 0)), (.string ⟨#[]⟩)], 0, 0, 3, [(0,3),(1,9)], 24, true, .i64⟩
theorem y215ok : mkTy Tryz.prog 215 = some y215 ∧ zeroOk y215.zero = true := ⟨by kernel_rfl, by kernel_rfl⟩
def y216 : TyI := ⟨1, false, [.nilFunc], 0, 0, 0, [], 8, true, .i64⟩
theorem y216ok : mkTy Tryz.prog 216 = some y216 ∧ zeroOk y216.zero = true := ⟨by kernel_rfl, by kernel_rfl⟩
def y217 : TyI := ⟨1, false, [.nilFunc], 0, 0, 0, [], 8, true, .i64⟩
theorem y217ok : mkTy Tryz.prog 217 = some y217 ∧ zeroOk y217.zero = true := ⟨by kernel_rfl, by kernel_rfl⟩
def y218 : TyI := ⟨1, false, [.nilFunc], 0, 0, 0, [], 8, true, .i64⟩
theorem y218ok : mkTy Tryz.prog 218 = some y218 ∧ zeroOk y218.zero = true := ⟨by kernel_rfl, by kernel_rfl⟩
def y219 : TyI := ⟨1, false, [.nilFunc], 0, 0, 0, [], 8, true, .i64⟩
theorem y219ok : mkTy Tryz.prog 219 = some y219 ∧ zeroOk y219.zero = true := ⟨by kernel_rfl, by kernel_rfl⟩
def y221 : TyI := ⟨1, false, [.nilFunc], 0, 0, 0, [], 8, true, .i64⟩
theorem y221ok : mkTy Tryz.prog 221 = some y221 ∧ zeroOk y221.zero = true := ⟨by kernel_rfl, by kernel_rfl⟩
def y222 : TyI := ⟨1, false, [.nilFunc], 0, 0, 0, [], 8, true, .i64⟩
theorem y222ok : mkTy Tryz.prog 222 = some y222 ∧ zeroOk y222.zero = true := ⟨by kernel_rfl, by kernel_rfl⟩
def y223 : TyI := ⟨1, false, [(.int .i64 (.ofNat 0))], 0, 0, 6, [], 8, true, .i64⟩
theorem y223ok : mkTy Tryz.prog 223 = some y223 ∧ zeroOk y223.zero = true := ⟨by kernel_rfl, by kernel_rfl⟩
def y225 : TyI := ⟨1, false, [.nilFunc], 0, 0, 0, [], 8, true, .i64⟩
theorem y225ok : mkTy Tryz.prog 225 = some y225 ∧ zeroOk y225.zero = true := ⟨by kernel_rfl, by kernel_rfl⟩
def y226 : TyI := ⟨1, false, [.nilFunc], 0, 0, 0, [], 8, true, .i64⟩
theorem y226ok : mkTy Tryz.prog 226 = some y226 ∧ zeroOk y226.zero = true := ⟨by kernel_rfl, by kernel_rfl⟩
def y227 : TyI := ⟨1, false, [.nilFunc], 0, 0, 0, [], 8, true, .i64⟩
theorem y227ok : mkTy Tryz.prog 227 = some y227 ∧ zeroOk y227.zero = true := ⟨by kernel_rfl, by kernel_rfl⟩
def y228 : TyI := ⟨1, false, [.nilFunc], 0, 0, 0, [], 8, true, .i64⟩
theorem y228ok : mkTy Tryz.prog 228 = some y228 ∧ zeroOk y228.zero = true := ⟨by kernel_rfl, by kernel_rfl⟩
def y229 : TyI := ⟨1, false, [.nilFunc], 0, 0, 0, [], 8, true, .i64⟩
theorem y229ok : mkTy Tryz.prog 229 = some y229 ∧ zeroOk y229.zero = true := ⟨by kernel_rfl, by kernel_rfl⟩
def y230 : TyI := ⟨1, false, [.nilFunc], 0, 0, 0, [], 8, true, .i64⟩
theorem y230ok : mkTy Tryz.prog 230 = some y230 ∧ zeroOk y230.zero = true := ⟨by kernel_rfl, by kernel_rfl⟩
def y231 : TyI := ⟨1, false, [.nilFunc], 0, 0, 0, [], 8, true, .i64⟩
theorem y231ok : mkTy Tryz.prog 231 = some y231 ∧ zeroOk y231.zero = true := ⟨by kernel_rfl, by kernel_rfl⟩
def y232 : TyI := ⟨1, false, [.nilFunc], 0, 0, 0, [], 8, true, .i64⟩
theorem y232ok : mkTy Tryz.prog 232 = some y232 ∧ zeroOk y232.zero = true := ⟨by kernel_rfl, by kernel_rfl⟩
def y233 : TyI := ⟨1, false, [.nilFunc], 0, 0, 0, [], 8, true, .i64⟩
theorem y233ok : mkTy Tryz.prog 233 = some y233 ∧ zeroOk y233.zero = true := ⟨by kernel_rfl, by kernel_rfl⟩
def y234 : TyI := ⟨2, true, [(.int .i64 (.ofNat 0)), (.int .i64 (.ofNat 0))], 0, 0, 3, [(0,2),(1,2)], 16, true, .i64⟩
theorem y234ok : mkTy Tryz.prog 234 = some y234 ∧ zeroOk y234.zero = true := ⟨by kernel_rfl, by kernel_rfl⟩
def y235 : TyI := ⟨2, true, [(.int .i64 (.ofNat 0)), (.int .i64 (.ofNat 0))], 0, 0, 3, [(0,2),(1,2)], 16, true, .i64⟩
theorem y235ok : mkTy Tryz.prog 235 = some y235 ∧ zeroOk y235.zero = true := ⟨by kernel_rfl, by kernel_rfl⟩
def y236 : TyI := ⟨1, false, [.nilFunc], 0, 0, 0, [], 8, true, .i64⟩
theorem y236ok : mkTy Tryz.prog 236 = some y236 ∧ zeroOk y236.zero = true := ⟨by kernel_rfl, by kernel_rfl⟩
def y237 : TyI := ⟨1, false, [.nilFunc], 0, 0, 0, [], 8, true, .i64⟩
theorem y237ok : mkTy Tryz.prog 237 = some y237 ∧ zeroOk y237.zero = true := ⟨by kernel_rfl, by kernel_rfl⟩
def y238 : TyI := ⟨1, false, [.nilFunc], 0, 0, 0, [], 8, true, .i64⟩
theorem y238ok : mkTy Tryz.prog 238 = some y238 ∧ zeroOk y238.zero = true := ⟨by kernel_rfl, by kernel_rfl⟩
def y239 : TyI := ⟨1, false, [.nilFunc], 0, 0, 0, [], 8, true, .i64⟩
theorem y239ok : mkTy Tryz.prog 239 = some y239 ∧ zeroOk y239.zero = true := ⟨by kernel_rfl, by kernel_rfl⟩
def y240 : TyI := ⟨1, false, [.nilFunc], 0, 0, 0, [], 8, true, .i64⟩
theorem y240ok : mkTy Tryz.prog 240 = some y240 ∧ zeroOk y240.zero = true := ⟨by kernel_rfl, by kernel_rfl⟩
def y241 : TyI := ⟨1, false, [(.int .u64 (.ofNat 0))], 0, 0, 6, [], 8, true, .u64⟩
theorem y241ok : mkTy Tryz.prog 241 = some y241 ∧ zeroOk y241.zero = true := ⟨by kernel_rfl, by kernel_rfl⟩
def y242 : TyI := ⟨1, false, [.nilFunc], 0, 0, 0, [], 8, true, .i64⟩
theorem y242ok : mkTy Tryz.prog 242 = some y242 ∧ zeroOk y242.zero = true := ⟨by kernel_rfl, by kernel_rfl⟩
def y243 : TyI := ⟨1, false, [.nilFunc], 0, 0, 0, [], 8, true, .i64⟩
theorem y243ok : mkTy Tryz.prog 243 = some y243 ∧ zeroOk y243.zero = true := ⟨by kernel_rfl, by kernel_rfl⟩
def y244 : TyI := ⟨1, false, [.nilFunc], 0, 0, 0, [], 8, true, .i64⟩
theorem y244ok : mkTy Tryz.prog 244 = some y244 ∧ zeroOk y244.zero = true := ⟨by kernel_rfl, by kernel_rfl⟩
def y245 : TyI := ⟨1, false, [(.pointer none)], 0, 0, 8, [], 8, true, .i64⟩
theorem y245ok : mkTy Tryz.prog 245 = some y245 ∧ zeroOk y245.zero = true := ⟨by kernel_rfl, by kernel_rfl⟩
def y246 : TyI := ⟨1, false, [.nilFunc], 0, 0, 0, [], 8, true, .i64⟩
theorem y246ok : mkTy Tryz.prog 246 = some y246 ∧ zeroOk y246.zero = true := ⟨by kernel_rfl, by kernel_rfl⟩
def y247 : TyI := ⟨1, false, [.nilFunc], 0, 0, 0, [], 8, true, .i64⟩
theorem y247ok : mkTy Tryz.prog 247 = some y247 ∧ zeroOk y247.zero = true := ⟨by kernel_rfl, by kernel_rfl⟩
def y248 : TyI := ⟨1, false, [.nilFunc], 0, 0, 0, [], 8, true, .i64⟩
theorem y248ok : mkTy Tryz.prog 248 = some y248 ∧ zeroOk y248.zero = true := ⟨by kernel_rfl, by kernel_rfl⟩
def y249 : TyI := ⟨1, false, [(.pointer none)], 0, 0, 8, [], 8, true, .i64⟩
theorem y249ok : mkTy Tryz.prog 249 = some y249 ∧ zeroOk y249.zero = true := ⟨by kernel_rfl, by kernel_rfl⟩
def y251 : TyI := ⟨1, false, [.nilFunc], 0, 0, 0, [], 8, true, .i64⟩
theorem y251ok : mkTy Tryz.prog 251 = some y251 ∧ zeroOk y251.zero = true := ⟨by kernel_rfl, by kernel_rfl⟩
def y252 : TyI := ⟨1, false, [.nilFunc], 0, 0, 0, [], 8, true, .i64⟩
theorem y252ok : mkTy Tryz.prog 252 = some y252 ∧ zeroOk y252.zero = true := ⟨by kernel_rfl, by kernel_rfl⟩
def y254 : TyI := ⟨1, false, [.nilFunc], 0, 0, 0, [], 8, true, .i64⟩
theorem y254ok : mkTy Tryz.prog 254 = some y254 ∧ zeroOk y254.zero = true := ⟨by kernel_rfl, by kernel_rfl⟩
def y255 : TyI := ⟨2, true, [(.bool false), (.bool false)], 4, 2, 2, [], 2, true, .i64⟩
theorem y255ok : mkTy Tryz.prog 255 = some y255 ∧ zeroOk y255.zero = true := ⟨by kernel_rfl, by kernel_rfl⟩
def y256 : TyI := ⟨1, false, [.nilFunc], 0, 0, 0, [], 8, true, .i64⟩
theorem y256ok : mkTy Tryz.prog 256 = some y256 ∧ zeroOk y256.zero = true := ⟨by kernel_rfl, by kernel_rfl⟩
def y257 : TyI := ⟨4, true, [(.pointer none), (.pointer none), (.pointer none), (.string ⟨#[]⟩)], 0, 0, 3, [(0,17),(1,17),(2,17),(3,9)], 40, false, .i64⟩
theorem y257ok : mkTy Tryz.prog 257 = some y257 ∧ zeroOk y257.zero = true := ⟨by kernel_rfl, by kernel_rfl⟩
def y258 : TyI := ⟨4, true, [(.pointer none), (.pointer none), (.pointer none), (.string ⟨#[]⟩)], 0, 0, 3, [(0,17),(1,17),(2,17),(3,9)], 40, false, .i64⟩
theorem y258ok : mkTy Tryz.prog 258 = some y258 ∧ zeroOk y258.zero = true := ⟨by kernel_rfl, by kernel_rfl⟩
def y259 : TyI := ⟨0, true, [], 16, 0, 2, [], 0, true, .i64⟩
theorem y259ok : mkTy Tryz.prog 259 = some y259 ∧ zeroOk y259.zero = true := ⟨by kernel_rfl, by kernel_rfl⟩
def y260 : TyI := ⟨0, true, [], 0, 0, 3, [(0,259)], 0, false, .i64⟩
theorem y260ok : mkTy Tryz.prog 260 = some y260 ∧ zeroOk y260.zero = true := ⟨by kernel_rfl, by kernel_rfl⟩
def y261 : TyI := ⟨0, true, [], 0, 0, 3, [(0,259)], 0, false, .i64⟩
theorem y261ok : mkTy Tryz.prog 261 = some y261 ∧ zeroOk y261.zero = true := ⟨by kernel_rfl, by kernel_rfl⟩
def y262 : TyI := ⟨1, false, [(.int .u8 (.ofNat 0))], 0, 0, 6, [], 1, true, .u8⟩
theorem y262ok : mkTy Tryz.prog 262 = some y262 ∧ zeroOk y262.zero = true := ⟨by kernel_rfl, by kernel_rfl⟩
def y263 : TyI := ⟨1, false, [(.int .u8 (.ofNat 0))], 0, 0, 6, [], 1, true, .u8⟩
theorem y263ok : mkTy Tryz.prog 263 = some y263 ∧ zeroOk y263.zero = true := ⟨by kernel_rfl, by kernel_rfl⟩
def y264 : TyI := ⟨1, false, [.nilFunc], 0, 0, 0, [], 8, true, .i64⟩
theorem y264ok : mkTy Tryz.prog 264 = some y264 ∧ zeroOk y264.zero = true := ⟨by kernel_rfl, by kernel_rfl⟩
def y265 : TyI := ⟨1, false, [(.pointer none)], 0, 0, 8, [], 8, true, .i64⟩
theorem y265ok : mkTy Tryz.prog 265 = some y265 ∧ zeroOk y265.zero = true := ⟨by kernel_rfl, by kernel_rfl⟩
def y266 : TyI := ⟨1, false, [(.int .i32 (.ofNat 0))], 0, 0, 6, [], 4, true, .i32⟩
theorem y266ok : mkTy Tryz.prog 266 = some y266 ∧ zeroOk y266.zero = true := ⟨by kernel_rfl, by kernel_rfl⟩
def y267 : TyI := ⟨1, false, [(.int .i32 (.ofNat 0))], 0, 0, 6, [], 4, true, .i32⟩
theorem y267ok : mkTy Tryz.prog 267 = some y267 ∧ zeroOk y267.zero = true := ⟨by kernel_rfl, by kernel_rfl⟩
def y268 : TyI := ⟨11, true, [(.int .u64 (.ofNat 0)), (.int .u64 (.ofNat 0)), (.int .u32 (.ofNat 0)), (.int .u8 (.ofNat 0)), (.int .u8 (.ofNat 0)), (.int .u8 (.ofNat 0)), (.int .u8 (.ofNat 0)), .nilFunc, (.pointer none), (.int .i32 (.ofNat 0)), (.int .i32 (.ofNat 0))], 0, 0, 3, [(0,12),(1,12),(2,90),(3,262),(4,5),(5,5),(6,263),(7,264),(8,265),(9,266),(10,267)], 48, false, .i64⟩
theorem y268ok : mkTy Tryz.prog 268 = some y268 ∧ zeroOk y268.zero = true := ⟨by kernel_rfl, by kernel_rfl⟩
def y269 : TyI := ⟨11, true, [(.int .u64 (.ofNat 0)), (.int .u64 (.ofNat 0)), (.int .u32 (.ofNat 0)), (.int .u8 (.ofNat 0)), (.int .u8 (.ofNat 0)), (.int .u8 (.ofNat 0)), (.int .u8 (.ofNat 0)), .nilFunc, (.pointer none), (.int .i32 (.ofNat 0)), (.int .i32 (.ofNat 0))], 0, 0, 3, [(0,12),(1,12),(2,90),(3,262),(4,5),(5,5),(6,263),(7,264),(8,265),(9,266),(10,267)], 48, false, .i64⟩
theorem y269ok : mkTy Tryz.prog 269 = some y269 ∧ zeroOk y269.zero = true := ⟨by kernel_rfl, by kernel_rfl⟩
def y270 : TyI := ⟨1, false, [(.pointer none)], 0, 0, 0, [], 8, true, .i64⟩
theorem y270ok : mkTy Tryz.prog 270 = some y270 ∧ zeroOk y270.zero = true := ⟨by kernel_rfl, by kernel_rfl⟩
def tys : Types := (.nd (.nd (.nd (.nd (.nd (.nd (.nd (.nd (.nd .lf (some y255) .lf) (some y127) .lf) none (.nd .lf (some y191) .lf)) (some y31) (.nd (.nd .lf (some y159) .lf) (some y95) (.nd .lf (some y223) .lf))) (some y15) (.nd (.nd (.nd .lf (some y143) .lf) (some y79) (.nd .lf (some y207) .lf)) (some y47) (.nd (.nd .lf (some y175) .lf) (some y111) (.nd .lf (some y239) .lf)))) (some y7) (.nd (.nd (.nd (.nd (.nd .lf (some y263) .lf) (some y135) .lf) none (.nd .lf (some y199) .lf)) (some y39) (.nd (.nd .lf (some y167) .lf) (some y103) (.nd .lf (some y231) .lf))) (some y23) (.nd (.nd .lf (some y87) (.nd .lf (some y215) .lf)) (some y55) (.nd (.nd .lf (some y183) .lf) (some y119) (.nd .lf (some y247) .lf))))) (some y3) (.nd (.nd (.nd (.nd (.nd (.nd .lf (some y259) .lf) (some y131) .lf) (some y67) (.nd .lf (some y195) .lf)) (some y35) (.nd (.nd .lf (some y163) .lf) (some y99) (.nd .lf (some y227) .lf))) (some y19) (.nd (.nd (.nd .lf (some y147) .lf) (some y83) (.nd .lf (some y211) .lf)) (some y51) (.nd (.nd .lf (some y179) .lf) (some y115) (.nd .lf (some y243) .lf)))) (some y11) (.nd (.nd (.nd (.nd (.nd .lf (some y267) .lf) (some y139) .lf) (some y75) (.nd .lf (some y203) .lf)) (some y43) (.nd (.nd .lf (some y171) .lf) (some y107) (.nd .lf (some y235) .lf))) (some y27) (.nd (.nd (.nd .lf (some y155) .lf) none (.nd .lf (some y219) .lf)) (some y59) (.nd (.nd .lf (some y187) .lf) (some y123) (.nd .lf (some y251) .lf)))))) (some y1) (.nd (.nd (.nd (.nd (.nd (.nd (.nd .lf (some y257) .lf) (some y129) .lf) (some y65) (.nd .lf (some y193) .lf)) (some y33) (.nd (.nd .lf (some y161) .lf) (some y97) (.nd .lf (some y225) .lf))) (some y17) (.nd (.nd (.nd .lf (some y145) .lf) none (.nd .lf (some y209) .lf)) (some y49) (.nd (.nd .lf (some y177) .lf) (some y113) (.nd .lf (some y241) .lf)))) (some y9) (.nd (.nd (.nd (.nd (.nd .lf (some y265) .lf) (some y137) .lf) (some y73) (.nd .lf (some y201) .lf)) (some y41) (.nd (.nd .lf (some y169) .lf) (some y105) (.nd .lf (some y233) .lf))) (some y25) (.nd (.nd (.nd .lf (some y153) .lf) (some y89) (.nd .lf (some y217) .lf)) (some y57) (.nd (.nd .lf (some y185) .lf) (some y121) (.nd .lf (some y249) .lf))))) (some y5) (.nd (.nd (.nd (.nd (.nd (.nd .lf (some y261) .lf) (some y133) .lf) (some y69) (.nd .lf (some y197) .lf)) (some y37) (.nd (.nd .lf (some y165) .lf) (some y101) (.nd .lf (some y229) .lf))) (some y21) (.nd (.nd (.nd .lf (some y149) .lf) (some y85) (.nd .lf (some y213) .lf)) (some y53) (.nd (.nd .lf (some y181) .lf) (some y117) (.nd .lf (some y245) .lf)))) (some y13) (.nd (.nd (.nd (.nd (.nd .lf (some y269) .lf) (some y141) .lf) (some y77) (.nd .lf (some y205) .lf)) (some y45) (.nd (.nd .lf (some y173) .lf) (some y109) (.nd .lf (some y237) .lf))) (some y29) (.nd (.nd (.nd .lf (some y157) .lf) (some y93) (.nd .lf (some y221) .lf)) (some y61) (.nd (.nd .lf (some y189) .lf) (some y125) .lf)))))) none (.nd (.nd (.nd (.nd (.nd (.nd (.nd (.nd .lf (some y256) .lf) (some y128) .lf) (some y64) (.nd .lf (some y192) .lf)) (some y32) (.nd (.nd .lf (some y160) .lf) (some y96) .lf)) (some y16) (.nd (.nd (.nd .lf (some y144) .lf) (some y80) (.nd .lf (some y208) .lf)) (some y48) (.nd (.nd .lf (some y176) .lf) (some y112) (.nd .lf (some y240) .lf)))) (some y8) (.nd (.nd (.nd (.nd (.nd .lf (some y264) .lf) (some y136) .lf) (some y72) (.nd .lf (some y200) .lf)) (some y40) (.nd (.nd .lf (some y168) .lf) (some y104) (.nd .lf (some y232) .lf))) (some y24) (.nd (.nd (.nd .lf (some y152) .lf) none (.nd .lf (some y216) .lf)) (some y56) (.nd (.nd .lf (some y184) .lf) (some y120) (.nd .lf (some y248) .lf))))) (some y4) (.nd (.nd (.nd (.nd (.nd (.nd .lf (some y260) .lf) (some y132) .lf) (some y68) (.nd .lf (some y196) .lf)) (some y36) (.nd (.nd .lf (some y164) .lf) none (.nd .lf (some y228) .lf))) (some y20) (.nd (.nd (.nd .lf (some y148) .lf) (some y84) (.nd .lf (some y212) .lf)) (some y52) (.nd (.nd .lf (some y180) .lf) (some y116) (.nd .lf (some y244) .lf)))) (some y12) (.nd (.nd (.nd (.nd (.nd .lf (some y268) .lf) none .lf) (some y76) (.nd .lf (some y204) .lf)) (some y44) (.nd (.nd .lf (some y172) .lf) (some y108) (.nd .lf (some y236) .lf))) (some y28) (.nd (.nd (.nd .lf (some y156) .lf) (some y92) .lf) (some y60) (.nd (.nd .lf (some y188) .lf) (some y124) (.nd .lf (some y252) .lf)))))) (some y2) (.nd (.nd (.nd (.nd (.nd (.nd (.nd .lf (some y258) .lf) (some y130) .lf) (some y66) (.nd .lf (some y194) .lf)) (some y34) (.nd (.nd .lf (some y162) .lf) (some y98) (.nd .lf (some y226) .lf))) (some y18) (.nd (.nd (.nd .lf (some y146) .lf) (some y82) (.nd .lf (some y210) .lf)) (some y50) (.nd .lf none (.nd .lf (some y242) .lf)))) (some y10) (.nd (.nd (.nd (.nd (.nd .lf (some y266) .lf) (some y138) .lf) none (.nd .lf (some y202) .lf)) (some y42) (.nd (.nd .lf (some y170) .lf) (some y106) (.nd .lf (some y234) .lf))) (some y26) (.nd (.nd (.nd .lf (some y154) .lf) (some y90) (.nd .lf (some y218) .lf)) (some y58) (.nd (.nd .lf (some y186) .lf) (some y122) .lf)))) (some y6) (.nd (.nd (.nd (.nd (.nd (.nd .lf (some y262) .lf) (some y134) .lf) (some y70) .lf) (some y38) (.nd (.nd .lf (some y166) .lf) (some y102) (.nd .lf (some y230) .lf))) (some y22) (.nd (.nd (.nd .lf (some y150) .lf) (some y86) (.nd .lf (some y214) .lf)) (some y54) (.nd (.nd .lf (some y182) .lf) (some y118) (.nd .lf (some y246) .lf)))) (some y14) (.nd (.nd (.nd (.nd (.nd .lf (some y270) .lf) none .lf) (some y78) (.nd .lf (some y206) .lf)) (some y46) (.nd (.nd .lf (some y174) .lf) (some y110) (.nd .lf (some y238) .lf))) (some y30) (.nd (.nd (.nd .lf (some y158) .lf) none (.nd .lf (some y222) .lf)) (some y62) (.nd (.nd .lf (some y190) .lf) (some y126) (.nd .lf (some y254) .lf))))))))
theorem tysAll : Tr.All (fun t i => mkTy Tryz.prog t = some i ∧ zeroOk i.zero = true) id tys := ⟨trivial, ⟨y1ok, ⟨y3ok, ⟨y7ok, ⟨y15ok, ⟨y31ok, ⟨trivial, ⟨y127ok, ⟨y255ok, trivial, trivial⟩, trivial⟩, ⟨y191ok, trivial, trivial⟩⟩, ⟨y95ok, ⟨y159ok, trivial, trivial⟩, ⟨y223ok, trivial, trivial⟩⟩⟩, ⟨y47ok, ⟨y79ok, ⟨y143ok, trivial, trivial⟩, ⟨y207ok, trivial, trivial⟩⟩, ⟨y111ok, ⟨y175ok, trivial, trivial⟩, ⟨y239ok, trivial, trivial⟩⟩⟩⟩, ⟨y23ok, ⟨y39ok, ⟨trivial, ⟨y135ok, ⟨y263ok, trivial, trivial⟩, trivial⟩, ⟨y199ok, trivial, trivial⟩⟩, ⟨y103ok, ⟨y167ok, trivial, trivial⟩, ⟨y231ok, trivial, trivial⟩⟩⟩, ⟨y55ok, ⟨y87ok, trivial, ⟨y215ok, trivial, trivial⟩⟩, ⟨y119ok, ⟨y183ok, trivial, trivial⟩, ⟨y247ok, trivial, trivial⟩⟩⟩⟩⟩, ⟨y11ok, ⟨y19ok, ⟨y35ok, ⟨y67ok, ⟨y131ok, ⟨y259ok, trivial, trivial⟩, trivial⟩, ⟨y195ok, trivial, trivial⟩⟩, ⟨y99ok, ⟨y163ok, trivial, trivial⟩, ⟨y227ok, trivial, trivial⟩⟩⟩, ⟨y51ok, ⟨y83ok, ⟨y147ok, trivial, trivial⟩, ⟨y211ok, trivial, trivial⟩⟩, ⟨y115ok, ⟨y179ok, trivial, trivial⟩, ⟨y243ok, trivial, trivial⟩⟩⟩⟩, ⟨y27ok, ⟨y43ok, ⟨y75ok, ⟨y139ok, ⟨y267ok, trivial, trivial⟩, trivial⟩, ⟨y203ok, trivial, trivial⟩⟩, ⟨y107ok, ⟨y171ok, trivial, trivial⟩, ⟨y235ok, trivial, trivial⟩⟩⟩, ⟨y59ok, ⟨trivial, ⟨y155ok, trivial, trivial⟩, ⟨y219ok, trivial, trivial⟩⟩, ⟨y123ok, ⟨y187ok, trivial, trivial⟩, ⟨y251ok, trivial, trivial⟩⟩⟩⟩⟩⟩, ⟨y5ok, ⟨y9ok, ⟨y17ok, ⟨y33ok, ⟨y65ok, ⟨y129ok, ⟨y257ok, trivial, trivial⟩, trivial⟩, ⟨y193ok, trivial, trivial⟩⟩, ⟨y97ok, ⟨y161ok, trivial, trivial⟩, ⟨y225ok, trivial, trivial⟩⟩⟩, ⟨y49ok, ⟨trivial, ⟨y145ok, trivial, trivial⟩, ⟨y209ok, trivial, trivial⟩⟩, ⟨y113ok, ⟨y177ok, trivial, trivial⟩, ⟨y241ok, trivial, trivial⟩⟩⟩⟩, ⟨y25ok, ⟨y41ok, ⟨y73ok, ⟨y137ok, ⟨y265ok, trivial, trivial⟩, trivial⟩, ⟨y201ok, trivial, trivial⟩⟩, ⟨y105ok, ⟨y169ok, trivial, trivial⟩, ⟨y233ok, trivial, trivial⟩⟩⟩, ⟨y57ok, ⟨y89ok, ⟨y153ok, trivial, trivial⟩, ⟨y217ok, trivial, trivial⟩⟩, ⟨y121ok, ⟨y185ok, trivial, trivial⟩, ⟨y249ok, trivial, trivial⟩⟩⟩⟩⟩, ⟨y13ok, ⟨y21ok, ⟨y37ok, ⟨y69ok, ⟨y133ok, ⟨y261ok, trivial, trivial⟩, trivial⟩, ⟨y197ok, trivial, trivial⟩⟩, ⟨y101ok, ⟨y165ok, trivial, trivial⟩, ⟨y229ok, trivial, trivial⟩⟩⟩, ⟨y53ok, ⟨y85ok, ⟨y149ok, trivial, trivial⟩, ⟨y213ok, trivial, trivial⟩⟩, ⟨y117ok, ⟨y181ok, trivial, trivial⟩, ⟨y245ok, trivial, trivial⟩⟩⟩⟩, ⟨y29ok, ⟨y45ok, ⟨y77ok, ⟨y141ok, ⟨y269ok, trivial, trivial⟩, trivial⟩, ⟨y205ok, trivial, trivial⟩⟩, ⟨y109ok, ⟨y173ok, trivial, trivial⟩, ⟨y237ok, trivial, trivial⟩⟩⟩, ⟨y61ok, ⟨y93ok, ⟨y157ok, trivial, trivial⟩, ⟨y221ok, trivial, trivial⟩⟩, ⟨y125ok, ⟨y189ok, trivial, trivial⟩, trivial⟩⟩⟩⟩⟩⟩, ⟨y2ok, ⟨y4ok, ⟨y8ok, ⟨y16ok, ⟨y32ok, ⟨y64ok, ⟨y128ok, ⟨y256ok, trivial, trivial⟩, trivial⟩, ⟨y192ok, trivial, trivial⟩⟩, ⟨y96ok, ⟨y160ok, trivial, trivial⟩, trivial⟩⟩, ⟨y48ok, ⟨y80ok, ⟨y144ok, trivial, trivial⟩, ⟨y208ok, trivial, trivial⟩⟩, ⟨y112ok, ⟨y176ok, trivial, trivial⟩, ⟨y240ok, trivial, trivial⟩⟩⟩⟩, ⟨y24ok, ⟨y40ok, ⟨y72ok, ⟨y136ok, ⟨y264ok, trivial, trivial⟩, trivial⟩, ⟨y200ok, trivial, trivial⟩⟩, ⟨y104ok, ⟨y168ok, trivial, trivial⟩, ⟨y232ok, trivial, trivial⟩⟩⟩, ⟨y56ok, ⟨trivial, ⟨y152ok, trivial, trivial⟩, ⟨y216ok, trivial, trivial⟩⟩, ⟨y120ok, ⟨y184ok, trivial, trivial⟩, ⟨y248ok, trivial, trivial⟩⟩⟩⟩⟩, ⟨y12ok, ⟨y20ok, ⟨y36ok, ⟨y68ok, ⟨y132ok, ⟨y260ok, trivial, trivial⟩, trivial⟩, ⟨y196ok, trivial, trivial⟩⟩, ⟨trivial, ⟨y164ok, trivial, trivial⟩, ⟨y228ok, trivial, trivial⟩⟩⟩, ⟨y52ok, ⟨y84ok, ⟨y148ok, trivial, trivial⟩, ⟨y212ok, trivial, trivial⟩⟩, ⟨y116ok, ⟨y180ok, trivial, trivial⟩, ⟨y244ok, trivial, trivial⟩⟩⟩⟩, ⟨y28ok, ⟨y44ok, ⟨y76ok, ⟨trivial, ⟨y268ok, trivial, trivial⟩, trivial⟩, ⟨y204ok, trivial, trivial⟩⟩, ⟨y108ok, ⟨y172ok, trivial, trivial⟩, ⟨y236ok, trivial, trivial⟩⟩⟩, ⟨y60ok, ⟨y92ok, ⟨y156ok, trivial, trivial⟩, trivial⟩, ⟨y124ok, ⟨y188ok, trivial, trivial⟩, ⟨y252ok, trivial, trivial⟩⟩⟩⟩⟩⟩, ⟨y6ok, ⟨y10ok, ⟨y18ok, ⟨y34ok, ⟨y66ok, ⟨y130ok, ⟨y258ok, trivial, trivial⟩, trivial⟩, ⟨y194ok, trivial, trivial⟩⟩, ⟨y98ok, ⟨y162ok, trivial, trivial⟩, ⟨y226ok, trivial, trivial⟩⟩⟩, ⟨y50ok, ⟨y82ok, ⟨y146ok, trivial, trivial⟩, ⟨y210ok, trivial, trivial⟩⟩, ⟨trivial, trivial, ⟨y242ok, trivial, trivial⟩⟩⟩⟩, ⟨y26ok, ⟨y42ok, ⟨trivial, ⟨y138ok, ⟨y266ok, trivial, trivial⟩, trivial⟩, ⟨y202ok, trivial, trivial⟩⟩, ⟨y106ok, ⟨y170ok, trivial, trivial⟩, ⟨y234ok, trivial, trivial⟩⟩⟩, ⟨y58ok, ⟨y90ok, ⟨y154ok, trivial, trivial⟩, ⟨y218ok, trivial, trivial⟩⟩, ⟨y122ok, ⟨y186ok, trivial, trivial⟩, trivial⟩⟩⟩⟩, ⟨y14ok, ⟨y22ok, ⟨y38ok, ⟨y70ok, ⟨y134ok, ⟨y262ok, trivial, trivial⟩, trivial⟩, trivial⟩, ⟨y102ok, ⟨y166ok, trivial, trivial⟩, ⟨y230ok, trivial, trivial⟩⟩⟩, ⟨y54ok, ⟨y86ok, ⟨y150ok, trivial, trivial⟩, ⟨y214ok, trivial, trivial⟩⟩, ⟨y118ok, ⟨y182ok, trivial, trivial⟩, ⟨y246ok, trivial, trivial⟩⟩⟩⟩, ⟨y30ok, ⟨y46ok, ⟨y78ok, ⟨trivial, ⟨y270ok, trivial, trivial⟩, trivial⟩, ⟨y206ok, trivial, trivial⟩⟩, ⟨y110ok, ⟨y174ok, trivial, trivial⟩, ⟨y238ok, trivial, trivial⟩⟩⟩, ⟨y62ok, ⟨trivial, ⟨y158ok, trivial, trivial⟩, ⟨y222ok, trivial, trivial⟩⟩, ⟨y126ok, ⟨y190ok, trivial, trivial⟩, ⟨y254ok, trivial, trivial⟩⟩⟩⟩⟩⟩⟩⟩
theorem tysF : tys.allB (fun i => !Nat.beq i.kind 3 || i.fields.all fun x => (tys.get x.2).isSome) = true := by kernel_rfl
theorem tOk [Env] : TOk Tryz.prog tys := TOk.of tysAll tysF
end Go.Ev
