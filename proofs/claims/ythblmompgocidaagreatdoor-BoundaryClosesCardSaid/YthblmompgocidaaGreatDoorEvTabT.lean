/- The types of the program, as the evaluator asks for them. -/
import Derived.Test.YthblmompgocidaaGreatDoorEvFast
import Derived.KernelRfl
import Derived.Test.YthblmompgocidaaGreatDoorProg
set_option linter.all false
namespace Go.Ev
open Go.Proofs
abbrev i (n : Nat) : PV := .v (.int .i64 (.ofNat n))
abbrev j (n : Nat) : PV := .v (.int .i64 (.negSucc n))
abbrev nl : PV := .v (.slice none 0 0)
abbrev st (l : List Nat) : Value := .string ⟨⟨l.map UInt8.ofNat⟩⟩
abbrev sb (l : List Nat) : PV := .v (st l)
def y2 : TyI := ⟨1, false, [(.int .i64 (.ofNat 0))], 0, 0, 6, [], 8, true, .i64⟩
theorem y2ok : mkTy Tryz.prog 2 = some y2 ∧ zeroOk y2.zero = true := ⟨by kernel_rfl, by kernel_rfl⟩
def y3 : TyI := ⟨1, false, [(.int .i64 (.ofNat 0))], 0, 0, 6, [], 8, true, .i64⟩
theorem y3ok : mkTy Tryz.prog 3 = some y3 ∧ zeroOk y3.zero = true := ⟨by kernel_rfl, by kernel_rfl⟩
def y4 : TyI := ⟨1, false, [(.bool false)], 0, 0, 7, [], 1, true, .i64⟩
theorem y4ok : mkTy Tryz.prog 4 = some y4 ∧ zeroOk y4.zero = true := ⟨by kernel_rfl, by kernel_rfl⟩
def y5 : TyI := ⟨1, false, [(.int .u8 (.ofNat 0))], 0, 0, 6, [], 1, true, .u8⟩
theorem y5ok : mkTy Tryz.prog 5 = some y5 ∧ zeroOk y5.zero = true := ⟨by kernel_rfl, by kernel_rfl⟩
def y9 : TyI := ⟨1, false, [(.string ⟨#[]⟩)], 0, 0, 4, [], 16, true, .i64⟩
theorem y9ok : mkTy Tryz.prog 9 = some y9 ∧ zeroOk y9.zero = true := ⟨by kernel_rfl, by kernel_rfl⟩
def y22 : TyI := ⟨1, false, [(.slice none 0 0)], 3, 0, 1, [], 24, true, .i64⟩
theorem y22ok : mkTy Tryz.prog 22 = some y22 ∧ zeroOk y22.zero = true := ⟨by kernel_rfl, by kernel_rfl⟩
def y23 : TyI := ⟨1, false, [(.slice none 0 0)], 9, 0, 1, [], 24, true, .i64⟩
theorem y23ok : mkTy Tryz.prog 23 = some y23 ∧ zeroOk y23.zero = true := ⟨by kernel_rfl, by kernel_rfl⟩
def y24 : TyI := ⟨1, false, [(.slice none 0 0)], 59, 0, 1, [], 24, true, .i64⟩
theorem y24ok : mkTy Tryz.prog 24 = some y24 ∧ zeroOk y24.zero = true := ⟨by kernel_rfl, by kernel_rfl⟩
def y26 : TyI := ⟨2, true, [(.slice none 0 0), (.int .i64 (.ofNat 0))], 0, 0, 3, [(0,24),(1,3)], 32, true, .i64⟩
theorem y26ok : mkTy Tryz.prog 26 = some y26 ∧ zeroOk y26.zero = true := ⟨by kernel_rfl, by kernel_rfl⟩
def y27 : TyI := ⟨1, false, [(.int .i64 (.ofNat 0))], 0, 0, 6, [], 8, true, .i64⟩
theorem y27ok : mkTy Tryz.prog 27 = some y27 ∧ zeroOk y27.zero = true := ⟨by kernel_rfl, by kernel_rfl⟩
def y30 : TyI := ⟨1, false, [(.int .u64 (.ofNat 0))], 0, 0, 6, [], 8, true, .u64⟩
theorem y30ok : mkTy Tryz.prog 30 = some y30 ∧ zeroOk y30.zero = true := ⟨by kernel_rfl, by kernel_rfl⟩
def y31 : TyI := ⟨1, false, [(.pointer none)], 33, 0, 8, [], 8, true, .i64⟩
theorem y31ok : mkTy Tryz.prog 31 = some y31 ∧ zeroOk y31.zero = true := ⟨by kernel_rfl, by kernel_rfl⟩
def y33 : TyI := ⟨2, true, [(.slice none 0 0), (.int .i64 (.ofNat 0))], 0, 0, 3, [(0,22),(1,3)], 32, true, .i64⟩
theorem y33ok : mkTy Tryz.prog 33 = some y33 ∧ zeroOk y33.zero = true := ⟨by kernel_rfl, by kernel_rfl⟩
def y34 : TyI := ⟨1, false, [(.slice none 0 0)], 37, 0, 1, [], 24, true, .i64⟩
theorem y34ok : mkTy Tryz.prog 34 = some y34 ∧ zeroOk y34.zero = true := ⟨by kernel_rfl, by kernel_rfl⟩
def y35 : TyI := ⟨1, false, [(.slice none 0 0)], 61, 0, 1, [], 24, true, .i64⟩
theorem y35ok : mkTy Tryz.prog 35 = some y35 ∧ zeroOk y35.zero = true := ⟨by kernel_rfl, by kernel_rfl⟩
def y37 : TyI := ⟨13, true, [(.int .i64 (.ofNat 0)), (.int .i64 (.ofNat 0)), (.string ⟨#[]⟩), (.slice none 0 0), (.slice none 0 0), (.string ⟨#[]⟩), (.int .i64 (.ofNat 0)), (.int .i64 (.ofNat 0)), (.bool false), (.slice none 0 0), (.int .i64 (.ofNat 0)), (.string ⟨#[]⟩), (.string ⟨#[]⟩)], 0, 0, 3, [(0,3),(1,2),(2,9),(3,34),(4,35),(5,9),(6,3),(7,3),(8,4),(9,26),(11,9),(12,9)], 184, true, .i64⟩
theorem y37ok : mkTy Tryz.prog 37 = some y37 ∧ zeroOk y37.zero = true := ⟨by kernel_rfl, by kernel_rfl⟩
def y44 : TyI := ⟨1, false, [(.slice none 0 0)], 80, 0, 1, [], 24, true, .i64⟩
theorem y44ok : mkTy Tryz.prog 44 = some y44 ∧ zeroOk y44.zero = true := ⟨by kernel_rfl, by kernel_rfl⟩
def y47 : TyI := ⟨1, false, [(.pointer none)], 50, 0, 8, [], 8, true, .i64⟩
theorem y47ok : mkTy Tryz.prog 47 = some y47 ∧ zeroOk y47.zero = true := ⟨by kernel_rfl, by kernel_rfl⟩
def y48 : TyI := ⟨1, false, [(.slice none 0 0)], 4, 0, 1, [], 24, true, .i64⟩
theorem y48ok : mkTy Tryz.prog 48 = some y48 ∧ zeroOk y48.zero = true := ⟨by kernel_rfl, by kernel_rfl⟩
def y50 : TyI := ⟨12, true, [(.slice none 0 0), (.int .i64 (.ofNat 0)), (.bool false), (.bool false), (.bool false), (.int .i64 (.ofNat 0)), (.slice none 0 0), (.int .i64 (.ofNat 0)), (.slice none 0 0), (.slice none 0 0), (.slice none 0 0), (.slice none 0 0)], 0, 0, 3, [(0,44),(1,3),(2,4),(3,4),(4,4),(5,3),(6,26),(8,23),(9,22),(10,48),(11,23)], 176, true, .i64⟩
theorem y50ok : mkTy Tryz.prog 50 = some y50 ∧ zeroOk y50.zero = true := ⟨by kernel_rfl, by kernel_rfl⟩
def y56 : TyI := ⟨1, false, [(.slice none 0 0)], 63, 0, 1, [], 24, true, .i64⟩
theorem y56ok : mkTy Tryz.prog 56 = some y56 ∧ zeroOk y56.zero = true := ⟨by kernel_rfl, by kernel_rfl⟩
def y57 : TyI := ⟨2, true, [(.int .i64 (.ofNat 0)), (.int .i64 (.ofNat 0))], 3, 2, 2, [], 16, true, .i64⟩
theorem y57ok : mkTy Tryz.prog 57 = some y57 ∧ zeroOk y57.zero = true := ⟨by kernel_rfl, by kernel_rfl⟩
def y59 : TyI := ⟨8, true, [(.int .i64 (.ofNat 0)), (.int .i64 (.ofNat 0)), (.int .i64 (.ofNat 0)), (.string ⟨#[]⟩), (.slice none 0 0), (.slice none 0 0), (.int .i64 (.ofNat 0)), (.int .i64 (.ofNat 0))], 0, 0, 3, [(0,3),(1,2),(2,2),(3,9),(4,22),(5,56),(6,57)], 104, true, .i64⟩
theorem y59ok : mkTy Tryz.prog 59 = some y59 ∧ zeroOk y59.zero = true := ⟨by kernel_rfl, by kernel_rfl⟩
def y61 : TyI := ⟨2, true, [(.int .i64 (.ofNat 0)), (.string ⟨#[]⟩)], 0, 0, 3, [(0,3),(1,9)], 24, true, .i64⟩
theorem y61ok : mkTy Tryz.prog 61 = some y61 ∧ zeroOk y61.zero = true := ⟨by kernel_rfl, by kernel_rfl⟩
def y63 : TyI := ⟨4, true, [(.int .i64 (.ofNat 0)), (.string ⟨#[]⟩), (.int .i64 (.ofNat 0)), (.bool false)], 0, 0, 3, [(0,61),(2,3),(3,4)], 40, true, .i64⟩
theorem y63ok : mkTy Tryz.prog 63 = some y63 ∧ zeroOk y63.zero = true := ⟨by kernel_rfl, by kernel_rfl⟩
def y68 : TyI := ⟨1, false, [.nilFunc], 0, 0, 0, [], 8, true, .i64⟩
theorem y68ok : mkTy Tryz.prog 68 = some y68 ∧ zeroOk y68.zero = true := ⟨by kernel_rfl, by kernel_rfl⟩
def y71 : TyI := ⟨4, true, [(.slice none 0 0), (.int .i64 (.ofNat 0)), (.string ⟨#[]⟩), (.string ⟨#[]⟩)], 0, 0, 3, [(0,26),(2,9),(3,9)], 64, true, .i64⟩
theorem y71ok : mkTy Tryz.prog 71 = some y71 ∧ zeroOk y71.zero = true := ⟨by kernel_rfl, by kernel_rfl⟩
def y74 : TyI := ⟨1, false, [(.slice none 0 0)], 77, 0, 1, [], 24, true, .i64⟩
theorem y74ok : mkTy Tryz.prog 74 = some y74 ∧ zeroOk y74.zero = true := ⟨by kernel_rfl, by kernel_rfl⟩
def y75 : TyI := ⟨1, false, [(.slice none 0 0)], 148, 0, 1, [], 24, true, .i64⟩
theorem y75ok : mkTy Tryz.prog 75 = some y75 ∧ zeroOk y75.zero = true := ⟨by kernel_rfl, by kernel_rfl⟩
def y77 : TyI := ⟨7, true, [(.int .i64 (.ofNat 0)), (.int .i64 (.ofNat 0)), (.string ⟨#[]⟩), (.slice none 0 0), (.slice none 0 0), (.slice none 0 0), (.slice none 0 0)], 0, 0, 3, [(0,3),(1,2),(2,9),(3,74),(4,35),(5,75),(6,23)], 128, true, .i64⟩
theorem y77ok : mkTy Tryz.prog 77 = some y77 ∧ zeroOk y77.zero = true := ⟨by kernel_rfl, by kernel_rfl⟩
def y79 : TyI := ⟨1, false, [.nilFunc], 0, 0, 0, [], 8, true, .i64⟩
theorem y79ok : mkTy Tryz.prog 79 = some y79 ∧ zeroOk y79.zero = true := ⟨by kernel_rfl, by kernel_rfl⟩
def y80 : TyI := ⟨2, true, [(.int .i64 (.ofNat 0)), (.string ⟨#[]⟩)], 0, 0, 3, [(0,3),(1,9)], 24, true, .i64⟩
theorem y80ok : mkTy Tryz.prog 80 = some y80 ∧ zeroOk y80.zero = true := ⟨by kernel_rfl, by kernel_rfl⟩
def y95 : TyI := ⟨1, false, [.nilFunc], 0, 0, 0, [], 8, true, .i64⟩
theorem y95ok : mkTy Tryz.prog 95 = some y95 ∧ zeroOk y95.zero = true := ⟨by kernel_rfl, by kernel_rfl⟩
def y102 : TyI := ⟨1, false, [(.slice none 0 0)], 5, 0, 1, [], 24, true, .i64⟩
theorem y102ok : mkTy Tryz.prog 102 = some y102 ∧ zeroOk y102.zero = true := ⟨by kernel_rfl, by kernel_rfl⟩
def y107 : TyI := ⟨1, false, [.nilFunc], 0, 0, 0, [], 8, true, .i64⟩
theorem y107ok : mkTy Tryz.prog 107 = some y107 ∧ zeroOk y107.zero = true := ⟨by kernel_rfl, by kernel_rfl⟩
def y108 : TyI := ⟨1, false, [(.slice none 0 0)], 2, 0, 1, [], 24, true, .i64⟩
theorem y108ok : mkTy Tryz.prog 108 = some y108 ∧ zeroOk y108.zero = true := ⟨by kernel_rfl, by kernel_rfl⟩
def y112 : TyI := ⟨1, false, [.nilFunc], 0, 0, 0, [], 8, true, .i64⟩
theorem y112ok : mkTy Tryz.prog 112 = some y112 ∧ zeroOk y112.zero = true := ⟨by kernel_rfl, by kernel_rfl⟩
def y114 : TyI := ⟨1, false, [.nilFunc], 0, 0, 0, [], 8, true, .i64⟩
theorem y114ok : mkTy Tryz.prog 114 = some y114 ∧ zeroOk y114.zero = true := ⟨by kernel_rfl, by kernel_rfl⟩
def y116 : TyI := ⟨1, false, [.nilFunc], 0, 0, 0, [], 8, true, .i64⟩
theorem y116ok : mkTy Tryz.prog 116 = some y116 ∧ zeroOk y116.zero = true := ⟨by kernel_rfl, by kernel_rfl⟩
def y120 : TyI := ⟨1, false, [.nilFunc], 0, 0, 0, [], 8, true, .i64⟩
theorem y120ok : mkTy Tryz.prog 120 = some y120 ∧ zeroOk y120.zero = true := ⟨by kernel_rfl, by kernel_rfl⟩
def y131 : TyI := ⟨1, false, [.nilFunc], 0, 0, 0, [], 8, true, .i64⟩
theorem y131ok : mkTy Tryz.prog 131 = some y131 ∧ zeroOk y131.zero = true := ⟨by kernel_rfl, by kernel_rfl⟩
def y138 : TyI := ⟨3, true, [(.slice none 0 0), (.slice none 0 0), (.bool false)], 0, 0, 3, [(0,22),(1,22),(2,4)], 56, true, .i64⟩
theorem y138ok : mkTy Tryz.prog 138 = some y138 ∧ zeroOk y138.zero = true := ⟨by kernel_rfl, by kernel_rfl⟩
def y145 : TyI := ⟨1, false, [.nilFunc], 0, 0, 0, [], 8, true, .i64⟩
theorem y145ok : mkTy Tryz.prog 145 = some y145 ∧ zeroOk y145.zero = true := ⟨by kernel_rfl, by kernel_rfl⟩
def y148 : TyI := ⟨9, true, [(.slice none 0 0), (.bool false), (.int .i64 (.ofNat 0)), (.int .i64 (.ofNat 0)), (.string ⟨#[]⟩), (.slice none 0 0), (.slice none 0 0), (.slice none 0 0), (.slice none 0 0)], 0, 0, 3, [(0,74),(1,4),(2,77)], 160, true, .i64⟩
theorem y148ok : mkTy Tryz.prog 148 = some y148 ∧ zeroOk y148.zero = true := ⟨by kernel_rfl, by kernel_rfl⟩
def y165 : TyI := ⟨1, false, [.nilFunc], 0, 0, 0, [], 8, true, .i64⟩
theorem y165ok : mkTy Tryz.prog 165 = some y165 ∧ zeroOk y165.zero = true := ⟨by kernel_rfl, by kernel_rfl⟩
def y169 : TyI := ⟨1, false, [(.int .i64 (.ofNat 0))], 0, 0, 6, [], 8, true, .i64⟩
theorem y169ok : mkTy Tryz.prog 169 = some y169 ∧ zeroOk y169.zero = true := ⟨by kernel_rfl, by kernel_rfl⟩
def y177 : TyI := ⟨1, false, [(.int .u32 (.ofNat 0))], 0, 0, 6, [], 4, true, .u32⟩
theorem y177ok : mkTy Tryz.prog 177 = some y177 ∧ zeroOk y177.zero = true := ⟨by kernel_rfl, by kernel_rfl⟩
def y179 : TyI := ⟨1, false, [(.int .u64 (.ofNat 0))], 0, 0, 6, [], 8, true, .u64⟩
theorem y179ok : mkTy Tryz.prog 179 = some y179 ∧ zeroOk y179.zero = true := ⟨by kernel_rfl, by kernel_rfl⟩
def y180 : TyI := ⟨1, false, [(.map none)], 211, 9, 9, [], 8, true, .i64⟩
theorem y180ok : mkTy Tryz.prog 180 = some y180 ∧ zeroOk y180.zero = true := ⟨by kernel_rfl, by kernel_rfl⟩
def y181 : TyI := ⟨1, false, [(.map none)], 3, 9, 9, [], 8, true, .i64⟩
theorem y181ok : mkTy Tryz.prog 181 = some y181 ∧ zeroOk y181.zero = true := ⟨by kernel_rfl, by kernel_rfl⟩
def y183 : TyI := ⟨2, true, [(.map none), (.map none)], 0, 0, 3, [(0,180),(1,181)], 16, true, .i64⟩
theorem y183ok : mkTy Tryz.prog 183 = some y183 ∧ zeroOk y183.zero = true := ⟨by kernel_rfl, by kernel_rfl⟩
def y187 : TyI := ⟨5, true, [(.bool false), (.bool false), (.bool false), (.bool false), (.bool false)], 0, 0, 3, [(0,4),(1,4),(2,4),(3,4),(4,4)], 5, true, .i64⟩
theorem y187ok : mkTy Tryz.prog 187 = some y187 ∧ zeroOk y187.zero = true := ⟨by kernel_rfl, by kernel_rfl⟩
def y196 : TyI := ⟨1, false, [(.slice none 0 0)], 138, 0, 1, [], 24, true, .i64⟩
theorem y196ok : mkTy Tryz.prog 196 = some y196 ∧ zeroOk y196.zero = true := ⟨by kernel_rfl, by kernel_rfl⟩
def y211 : TyI := ⟨1, false, [(.slice none 0 0)], 219, 0, 1, [], 24, true, .i64⟩
theorem y211ok : mkTy Tryz.prog 211 = some y211 ∧ zeroOk y211.zero = true := ⟨by kernel_rfl, by kernel_rfl⟩
def y214 : TyI := ⟨1, false, [(.slice none 0 0)], 387, 0, 1, [], 24, true, .i64⟩
theorem y214ok : mkTy Tryz.prog 214 = some y214 ∧ zeroOk y214.zero = true := ⟨by kernel_rfl, by kernel_rfl⟩
def y216 : TyI := ⟨10, true, [(.int .i64 (.ofNat 0)), (.int .i64 (.ofNat 0)), (.string ⟨#[]⟩), (.slice none 0 0), (.slice none 0 0), (.slice none 0 0), (.slice none 0 0), (.slice none 0 0), (.slice none 0 0), (.slice none 0 0)], 0, 0, 3, [(0,77),(7,35),(8,214),(9,196)], 200, true, .i64⟩
theorem y216ok : mkTy Tryz.prog 216 = some y216 ∧ zeroOk y216.zero = true := ⟨by kernel_rfl, by kernel_rfl⟩
def y217 : TyI := ⟨1, false, [(.slice none 0 0)], 257, 0, 1, [], 24, true, .i64⟩
theorem y217ok : mkTy Tryz.prog 217 = some y217 ∧ zeroOk y217.zero = true := ⟨by kernel_rfl, by kernel_rfl⟩
def y219 : TyI := ⟨11, true, [(.int .i64 (.ofNat 0)), (.int .i64 (.ofNat 0)), (.string ⟨#[]⟩), (.slice none 0 0), (.slice none 0 0), (.slice none 0 0), (.slice none 0 0), (.slice none 0 0), (.slice none 0 0), (.slice none 0 0), (.slice none 0 0)], 0, 0, 3, [(0,216),(10,217)], 224, true, .i64⟩
theorem y219ok : mkTy Tryz.prog 219 = some y219 ∧ zeroOk y219.zero = true := ⟨by kernel_rfl, by kernel_rfl⟩
def y222 : TyI := ⟨1, false, [(.pointer none)], 224, 0, 8, [], 8, true, .i64⟩
theorem y222ok : mkTy Tryz.prog 222 = some y222 ∧ zeroOk y222.zero = true := ⟨by kernel_rfl, by kernel_rfl⟩
def y224 : TyI := ⟨2, true, [(.pointer none), (.slice none 0 0)], 0, 0, 3, [(0,222),(1,102)], 32, true, .i64⟩
theorem y224ok : mkTy Tryz.prog 224 = some y224 ∧ zeroOk y224.zero = true := ⟨by kernel_rfl, by kernel_rfl⟩
def y226 : TyI := ⟨1, false, [.nilIface], 0, 0, 5, [], 16, true, .i64⟩
theorem y226ok : mkTy Tryz.prog 226 = some y226 ∧ zeroOk y226.zero = true := ⟨by kernel_rfl, by kernel_rfl⟩
def y235 : TyI := ⟨2, true, [(.bool false), (.bool false)], 4, 2, 2, [], 2, true, .i64⟩
theorem y235ok : mkTy Tryz.prog 235 = some y235 ∧ zeroOk y235.zero = true := ⟨by kernel_rfl, by kernel_rfl⟩
def y248 : TyI := ⟨1, false, [(.slice none 0 0)], 254, 0, 1, [], 24, true, .i64⟩
theorem y248ok : mkTy Tryz.prog 248 = some y248 ∧ zeroOk y248.zero = true := ⟨by kernel_rfl, by kernel_rfl⟩
def y250 : TyI := ⟨1, false, [(.slice none 0 0)], 336, 0, 1, [], 24, true, .i64⟩
theorem y250ok : mkTy Tryz.prog 250 = some y250 ∧ zeroOk y250.zero = true := ⟨by kernel_rfl, by kernel_rfl⟩
def y252 : TyI := ⟨2, true, [(.bool false), (.slice none 0 0)], 0, 0, 3, [(0,4),(1,23)], 32, true, .i64⟩
theorem y252ok : mkTy Tryz.prog 252 = some y252 ∧ zeroOk y252.zero = true := ⟨by kernel_rfl, by kernel_rfl⟩
def y254 : TyI := ⟨9, true, [(.int .i64 (.ofNat 0)), (.int .i64 (.ofNat 0)), (.slice none 0 0), (.bool false), (.slice none 0 0), (.slice none 0 0), (.slice none 0 0), (.slice none 0 0), (.slice none 0 0)], 0, 0, 3, [(0,3),(1,3),(2,250),(3,252),(5,22),(6,22),(7,23),(8,23)], 168, true, .i64⟩
theorem y254ok : mkTy Tryz.prog 254 = some y254 ∧ zeroOk y254.zero = true := ⟨by kernel_rfl, by kernel_rfl⟩
def y255 : TyI := ⟨1, false, [(.slice none 0 0)], 216, 0, 1, [], 24, true, .i64⟩
theorem y255ok : mkTy Tryz.prog 255 = some y255 ∧ zeroOk y255.zero = true := ⟨by kernel_rfl, by kernel_rfl⟩
def y257 : TyI := ⟨1, false, [(.slice none 0 0)], 262, 0, 1, [], 24, true, .i64⟩
theorem y257ok : mkTy Tryz.prog 257 = some y257 ∧ zeroOk y257.zero = true := ⟨by kernel_rfl, by kernel_rfl⟩
def y262 : TyI := ⟨5, true, [(.slice none 0 0), (.bool false), (.slice none 0 0), (.slice none 0 0), (.bool false)], 0, 0, 3, [(0,196),(1,4),(2,138)], 88, true, .i64⟩
theorem y262ok : mkTy Tryz.prog 262 = some y262 ∧ zeroOk y262.zero = true := ⟨by kernel_rfl, by kernel_rfl⟩
def y266 : TyI := ⟨1, false, [.nilFunc], 0, 0, 0, [], 8, true, .i64⟩
theorem y266ok : mkTy Tryz.prog 266 = some y266 ∧ zeroOk y266.zero = true := ⟨by kernel_rfl, by kernel_rfl⟩
def y267 : TyI := ⟨1, false, [(.pointer none)], 5, 0, 8, [], 8, true, .i64⟩
theorem y267ok : mkTy Tryz.prog 267 = some y267 ∧ zeroOk y267.zero = true := ⟨by kernel_rfl, by kernel_rfl⟩
def y281 : TyI := ⟨1, false, [(.slice none 0 0)], 284, 0, 1, [], 24, true, .i64⟩
theorem y281ok : mkTy Tryz.prog 281 = some y281 ∧ zeroOk y281.zero = true := ⟨by kernel_rfl, by kernel_rfl⟩
def y284 : TyI := ⟨2, true, [(.int .i64 (.ofNat 0)), (.int .i64 (.ofNat 0))], 0, 0, 3, [(0,3),(1,3)], 16, true, .i64⟩
theorem y284ok : mkTy Tryz.prog 284 = some y284 ∧ zeroOk y284.zero = true := ⟨by kernel_rfl, by kernel_rfl⟩
def y287 : TyI := ⟨1, false, [(.slice none 0 0)], 22, 0, 1, [], 24, true, .i64⟩
theorem y287ok : mkTy Tryz.prog 287 = some y287 ∧ zeroOk y287.zero = true := ⟨by kernel_rfl, by kernel_rfl⟩
def y295 : TyI := ⟨1, false, [(.pointer none)], 0, 0, 10, [], 8, true, .i64⟩
theorem y295ok : mkTy Tryz.prog 295 = some y295 ∧ zeroOk y295.zero = true := ⟨by kernel_rfl, by kernel_rfl⟩
def y309 : TyI := ⟨4, true, [(.slice none 0 0), (.slice none 0 0), (.slice none 0 0), (.slice none 0 0)], 0, 0, 3, [(0,22),(1,22),(2,22),(3,22)], 96, true, .i64⟩
theorem y309ok : mkTy Tryz.prog 309 = some y309 ∧ zeroOk y309.zero = true := ⟨by kernel_rfl, by kernel_rfl⟩
def y310 : TyI := ⟨1, false, [(.slice none 0 0)], 309, 0, 1, [], 24, true, .i64⟩
theorem y310ok : mkTy Tryz.prog 310 = some y310 ∧ zeroOk y310.zero = true := ⟨by kernel_rfl, by kernel_rfl⟩
def y311 : TyI := ⟨1, false, [(.map none)], 4, 9, 9, [], 8, true, .i64⟩
theorem y311ok : mkTy Tryz.prog 311 = some y311 ∧ zeroOk y311.zero = true := ⟨by kernel_rfl, by kernel_rfl⟩
def y322 : TyI := ⟨1, false, [(.slice none 0 0)], 326, 0, 1, [], 24, true, .i64⟩
theorem y322ok : mkTy Tryz.prog 322 = some y322 ∧ zeroOk y322.zero = true := ⟨by kernel_rfl, by kernel_rfl⟩
def y326 : TyI := ⟨1, true, [(.slice none 0 0)], 0, 0, 3, [(0,196)], 24, true, .i64⟩
theorem y326ok : mkTy Tryz.prog 326 = some y326 ∧ zeroOk y326.zero = true := ⟨by kernel_rfl, by kernel_rfl⟩
def y328 : TyI := ⟨24, true, [(.int .u8 (.ofNat 0)), (.int .u8 (.ofNat 0)), (.int .u8 (.ofNat 0)), (.int .u8 (.ofNat 0)), (.int .u8 (.ofNat 0)), (.int .u8 (.ofNat 0)), (.int .u8 (.ofNat 0)), (.int .u8 (.ofNat 0)), (.int .u8 (.ofNat 0)), (.int .u8 (.ofNat 0)), (.int .u8 (.ofNat 0)), (.int .u8 (.ofNat 0)), (.int .u8 (.ofNat 0)), (.int .u8 (.ofNat 0)), (.int .u8 (.ofNat 0)), (.int .u8 (.ofNat 0)), (.int .u8 (.ofNat 0)), (.int .u8 (.ofNat 0)), (.int .u8 (.ofNat 0)), (.int .u8 (.ofNat 0)), (.int .u8 (.ofNat 0)), (.int .u8 (.ofNat 0)), (.int .u8 (.ofNat 0)), (.int .u8 (.ofNat 0))], 5, 24, 2, [], 24, true, .i64⟩
theorem y328ok : mkTy Tryz.prog 328 = some y328 ∧ zeroOk y328.zero = true := ⟨by kernel_rfl, by kernel_rfl⟩
def y336 : TyI := ⟨2, true, [(.int .i64 (.ofNat 0)), (.int .i64 (.ofNat 0))], 0, 0, 3, [(0,2),(1,2)], 16, true, .i64⟩
theorem y336ok : mkTy Tryz.prog 336 = some y336 ∧ zeroOk y336.zero = true := ⟨by kernel_rfl, by kernel_rfl⟩
def y371 : TyI := ⟨2, true, [(.bool false), (.slice none 0 0)], 0, 0, 3, [(0,252)], 32, true, .i64⟩
theorem y371ok : mkTy Tryz.prog 371 = some y371 ∧ zeroOk y371.zero = true := ⟨by kernel_rfl, by kernel_rfl⟩
def y387 : TyI := ⟨3, true, [(.slice none 0 0), (.bool false), (.int .i64 (.ofNat 0))], 0, 0, 3, [(0,22),(1,4),(2,3)], 40, true, .i64⟩
theorem y387ok : mkTy Tryz.prog 387 = some y387 ∧ zeroOk y387.zero = true := ⟨by kernel_rfl, by kernel_rfl⟩
def y396 : TyI := ⟨1, false, [.nilFunc], 0, 0, 0, [], 8, true, .i64⟩
theorem y396ok : mkTy Tryz.prog 396 = some y396 ∧ zeroOk y396.zero = true := ⟨by kernel_rfl, by kernel_rfl⟩
def tys : Types := (.nd (.nd (.nd (.nd (.nd (.nd (.nd (.nd (.nd .lf (some y255) .lf) none .lf) (some y63) .lf) (some y31) (.nd (.nd (.nd .lf (some y287) .lf) none .lf) (some y95) .lf)) none (.nd (.nd .lf (some y79) .lf) (some y47) .lf)) none (.nd (.nd (.nd .lf (some y71) .lf) none (.nd (.nd (.nd .lf (some y295) .lf) none .lf) none .lf)) (some y23) (.nd .lf none (.nd (.nd (.nd .lf (some y311) .lf) (some y183) .lf) none .lf)))) (some y3) (.nd (.nd (.nd (.nd (.nd .lf (some y131) (.nd .lf (some y387) .lf)) none .lf) (some y35) .lf) none (.nd (.nd .lf none (.nd .lf (some y211) .lf)) none (.nd (.nd .lf (some y179) .lf) none (.nd (.nd .lf (some y371) .lf) none .lf)))) none (.nd (.nd (.nd (.nd (.nd .lf (some y267) .lf) none .lf) (some y75) .lf) none (.nd .lf (some y107) (.nd .lf (some y235) .lf))) (some y27) (.nd (.nd .lf none (.nd .lf (some y219) .lf)) (some y59) (.nd (.nd .lf (some y187) .lf) none .lf))))) none (.nd (.nd (.nd (.nd (.nd (.nd (.nd .lf (some y257) .lf) none .lf) none .lf) (some y33) .lf) none (.nd (.nd (.nd .lf (some y145) .lf) none .lf) none (.nd (.nd .lf (some y177) .lf) none .lf))) (some y9) (.nd (.nd .lf none (.nd (.nd .lf (some y169) .lf) none .lf)) none (.nd (.nd (.nd (.nd .lf (some y281) .lf) none .lf) none (.nd .lf (some y217) .lf)) (some y57) .lf))) (some y5) (.nd (.nd (.nd .lf (some y37) (.nd (.nd .lf (some y165) .lf) none .lf)) none (.nd .lf none (.nd (.nd (.nd .lf (some y309) .lf) (some y181) .lf) none .lf))) none (.nd (.nd (.nd .lf (some y77) .lf) none .lf) none (.nd .lf (some y61) .lf))))) none (.nd (.nd (.nd (.nd (.nd .lf none (.nd .lf none (.nd .lf (some y224) .lf))) none (.nd (.nd .lf (some y80) (.nd (.nd .lf (some y336) .lf) none .lf)) (some y48) (.nd .lf (some y112) .lf))) none (.nd (.nd (.nd .lf none (.nd (.nd .lf (some y328) .lf) none .lf)) none .lf) (some y24) (.nd (.nd .lf none (.nd .lf (some y216) .lf)) (some y56) (.nd .lf (some y120) (.nd .lf (some y248) .lf))))) (some y4) (.nd (.nd (.nd (.nd .lf (some y68) (.nd .lf (some y196) .lf)) none .lf) none (.nd (.nd (.nd .lf (some y148) .lf) none .lf) none (.nd (.nd .lf (some y180) .lf) (some y116) .lf))) none (.nd (.nd (.nd (.nd .lf none (.nd .lf (some y396) .lf)) none .lf) (some y44) (.nd .lf (some y108) .lf)) none (.nd (.nd (.nd (.nd .lf (some y284) .lf) none .lf) none .lf) none (.nd .lf none (.nd .lf (some y252) .lf)))))) (some y2) (.nd (.nd (.nd (.nd (.nd .lf none (.nd (.nd .lf (some y322) .lf) none .lf)) (some y34) (.nd .lf none (.nd .lf (some y226) .lf))) none (.nd .lf (some y50) (.nd .lf (some y114) .lf))) none (.nd (.nd (.nd (.nd (.nd .lf (some y266) .lf) (some y138) .lf) (some y74) .lf) none .lf) (some y26) (.nd .lf none (.nd .lf none (.nd .lf (some y250) .lf))))) none (.nd (.nd (.nd (.nd (.nd (.nd .lf (some y262) .lf) none .lf) none (.nd (.nd .lf (some y326) .lf) none .lf)) none (.nd .lf (some y102) .lf)) (some y22) (.nd (.nd .lf none (.nd .lf (some y214) .lf)) none (.nd (.nd (.nd .lf (some y310) .lf) none .lf) none .lf))) none (.nd .lf (some y30) (.nd (.nd .lf none (.nd .lf (some y222) .lf)) none (.nd .lf none (.nd .lf (some y254) .lf))))))))
theorem tysAll : Tr.All (fun t i => mkTy Tryz.prog t = some i ∧ zeroOk i.zero = true) id tys := ⟨trivial, ⟨trivial, ⟨y3ok, ⟨trivial, ⟨trivial, ⟨y31ok, ⟨y63ok, ⟨trivial, ⟨y255ok, trivial, trivial⟩, trivial⟩, trivial⟩, ⟨y95ok, ⟨trivial, ⟨y287ok, trivial, trivial⟩, trivial⟩, trivial⟩⟩, ⟨y47ok, ⟨y79ok, trivial, trivial⟩, trivial⟩⟩, ⟨y23ok, ⟨trivial, ⟨y71ok, trivial, trivial⟩, ⟨trivial, ⟨trivial, ⟨y295ok, trivial, trivial⟩, trivial⟩, trivial⟩⟩, ⟨trivial, trivial, ⟨trivial, ⟨y183ok, ⟨y311ok, trivial, trivial⟩, trivial⟩, trivial⟩⟩⟩⟩, ⟨trivial, ⟨trivial, ⟨y35ok, ⟨trivial, ⟨y131ok, trivial, ⟨y387ok, trivial, trivial⟩⟩, trivial⟩, trivial⟩, ⟨trivial, ⟨trivial, trivial, ⟨y211ok, trivial, trivial⟩⟩, ⟨trivial, ⟨y179ok, trivial, trivial⟩, ⟨trivial, ⟨y371ok, trivial, trivial⟩, trivial⟩⟩⟩⟩, ⟨y27ok, ⟨trivial, ⟨y75ok, ⟨trivial, ⟨y267ok, trivial, trivial⟩, trivial⟩, trivial⟩, ⟨y107ok, trivial, ⟨y235ok, trivial, trivial⟩⟩⟩, ⟨y59ok, ⟨trivial, trivial, ⟨y219ok, trivial, trivial⟩⟩, ⟨trivial, ⟨y187ok, trivial, trivial⟩, trivial⟩⟩⟩⟩⟩, ⟨y5ok, ⟨y9ok, ⟨trivial, ⟨y33ok, ⟨trivial, ⟨trivial, ⟨y257ok, trivial, trivial⟩, trivial⟩, trivial⟩, trivial⟩, ⟨trivial, ⟨trivial, ⟨y145ok, trivial, trivial⟩, trivial⟩, ⟨trivial, ⟨y177ok, trivial, trivial⟩, trivial⟩⟩⟩, ⟨trivial, ⟨trivial, trivial, ⟨trivial, ⟨y169ok, trivial, trivial⟩, trivial⟩⟩, ⟨y57ok, ⟨trivial, ⟨trivial, ⟨y281ok, trivial, trivial⟩, trivial⟩, ⟨y217ok, trivial, trivial⟩⟩, trivial⟩⟩⟩, ⟨trivial, ⟨trivial, ⟨y37ok, trivial, ⟨trivial, ⟨y165ok, trivial, trivial⟩, trivial⟩⟩, ⟨trivial, trivial, ⟨trivial, ⟨y181ok, ⟨y309ok, trivial, trivial⟩, trivial⟩, trivial⟩⟩⟩, ⟨trivial, ⟨trivial, ⟨y77ok, trivial, trivial⟩, trivial⟩, ⟨y61ok, trivial, trivial⟩⟩⟩⟩⟩, ⟨y2ok, ⟨y4ok, ⟨trivial, ⟨trivial, ⟨trivial, trivial, ⟨trivial, trivial, ⟨y224ok, trivial, trivial⟩⟩⟩, ⟨y48ok, ⟨y80ok, trivial, ⟨trivial, ⟨y336ok, trivial, trivial⟩, trivial⟩⟩, ⟨y112ok, trivial, trivial⟩⟩⟩, ⟨y24ok, ⟨trivial, ⟨trivial, trivial, ⟨trivial, ⟨y328ok, trivial, trivial⟩, trivial⟩⟩, trivial⟩, ⟨y56ok, ⟨trivial, trivial, ⟨y216ok, trivial, trivial⟩⟩, ⟨y120ok, trivial, ⟨y248ok, trivial, trivial⟩⟩⟩⟩⟩, ⟨trivial, ⟨trivial, ⟨trivial, ⟨y68ok, trivial, ⟨y196ok, trivial, trivial⟩⟩, trivial⟩, ⟨trivial, ⟨trivial, ⟨y148ok, trivial, trivial⟩, trivial⟩, ⟨y116ok, ⟨y180ok, trivial, trivial⟩, trivial⟩⟩⟩, ⟨trivial, ⟨y44ok, ⟨trivial, ⟨trivial, trivial, ⟨y396ok, trivial, trivial⟩⟩, trivial⟩, ⟨y108ok, trivial, trivial⟩⟩, ⟨trivial, ⟨trivial, ⟨trivial, ⟨y284ok, trivial, trivial⟩, trivial⟩, trivial⟩, ⟨trivial, trivial, ⟨y252ok, trivial, trivial⟩⟩⟩⟩⟩⟩, ⟨trivial, ⟨trivial, ⟨trivial, ⟨y34ok, ⟨trivial, trivial, ⟨trivial, ⟨y322ok, trivial, trivial⟩, trivial⟩⟩, ⟨trivial, trivial, ⟨y226ok, trivial, trivial⟩⟩⟩, ⟨y50ok, trivial, ⟨y114ok, trivial, trivial⟩⟩⟩, ⟨y26ok, ⟨trivial, ⟨y74ok, ⟨y138ok, ⟨y266ok, trivial, trivial⟩, trivial⟩, trivial⟩, trivial⟩, ⟨trivial, trivial, ⟨trivial, trivial, ⟨y250ok, trivial, trivial⟩⟩⟩⟩⟩, ⟨trivial, ⟨y22ok, ⟨trivial, ⟨trivial, ⟨trivial, ⟨y262ok, trivial, trivial⟩, trivial⟩, ⟨trivial, ⟨y326ok, trivial, trivial⟩, trivial⟩⟩, ⟨y102ok, trivial, trivial⟩⟩, ⟨trivial, ⟨trivial, trivial, ⟨y214ok, trivial, trivial⟩⟩, ⟨trivial, ⟨trivial, ⟨y310ok, trivial, trivial⟩, trivial⟩, trivial⟩⟩⟩, ⟨y30ok, trivial, ⟨trivial, ⟨trivial, trivial, ⟨y222ok, trivial, trivial⟩⟩, ⟨trivial, trivial, ⟨y254ok, trivial, trivial⟩⟩⟩⟩⟩⟩⟩⟩
theorem tysF : tys.allB (fun i => !Nat.beq i.kind 3 || i.fields.all fun x => (tys.get x.2).isSome) = true := by kernel_rfl
theorem tOk [Env] : TOk Tryz.prog tys := TOk.of tysAll tysF
end Go.Ev
