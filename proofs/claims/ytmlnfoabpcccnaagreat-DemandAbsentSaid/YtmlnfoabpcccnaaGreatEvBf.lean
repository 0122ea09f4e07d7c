/- The types of the program, as the evaluator asks for them. -/
import Derived.Test.YtmlnfoabpcccnaaGreatEvBe
import Derived.KernelRfl
import Derived.Test.YtmlnfoabpcccnaaGreatProg
set_option linter.all false
namespace Go.Ev
open Go.Proofs
abbrev i (n : Nat) : PV := .v (.int .i64 (.ofNat n))
abbrev j (n : Nat) : PV := .v (.int .i64 (.negSucc n))
abbrev nl : PV := .v (.slice none 0 0)
abbrev st (l : List Nat) : Value := .string ⟨⟨l.map UInt8.ofNat⟩⟩
abbrev sb (l : List Nat) : PV := .v (st l)
def y2 : TyI := ⟨1, false, [(.int .i64 (.ofNat 0))], 0, 0, 6, [], 8, true, .i64⟩
theorem y2ok : mkTy Tryz.prog 2 = some y2 ∧ zeroOk y2.zero = true := ⟨by kernel_rfl, by kernel_rfl⟩
def y3 : TyI := ⟨1, false, [(.int .i64 (.ofNat 0))], 0, 0, 6, [], 8, true, .i64⟩
theorem y3ok : mkTy Tryz.prog 3 = some y3 ∧ zeroOk y3.zero = true := ⟨by kernel_rfl, by kernel_rfl⟩
def y4 : TyI := ⟨1, false, [(.bool false)], 0, 0, 7, [], 1, true, .i64⟩
theorem y4ok : mkTy Tryz.prog 4 = some y4 ∧ zeroOk y4.zero = true := ⟨by kernel_rfl, by kernel_rfl⟩
def y5 : TyI := ⟨1, false, [(.int .u8 (.ofNat 0))], 0, 0, 6, [], 1, true, .u8⟩
theorem y5ok : mkTy Tryz.prog 5 = some y5 ∧ zeroOk y5.zero = true := ⟨by kernel_rfl, by kernel_rfl⟩
def y9 : TyI := ⟨1, false, [(.string ⟨#[]⟩)], 0, 0, 4, [], 16, true, .i64⟩
theorem y9ok : mkTy Tryz.prog 9 = some y9 ∧ zeroOk y9.zero = true := ⟨by kernel_rfl, by kernel_rfl⟩
def y22 : TyI := ⟨1, false, [(.slice none 0 0)], 3, 0, 1, [], 24, true, .i64⟩
theorem y22ok : mkTy Tryz.prog 22 = some y22 ∧ zeroOk y22.zero = true := ⟨by kernel_rfl, by kernel_rfl⟩
def y23 : TyI := ⟨1, false, [(.slice none 0 0)], 30, 0, 1, [], 24, true, .i64⟩
theorem y23ok : mkTy Tryz.prog 23 = some y23 ∧ zeroOk y23.zero = true := ⟨by kernel_rfl, by kernel_rfl⟩
def y24 : TyI := ⟨1, false, [(.slice none 0 0)], 65, 0, 1, [], 24, true, .i64⟩
theorem y24ok : mkTy Tryz.prog 24 = some y24 ∧ zeroOk y24.zero = true := ⟨by kernel_rfl, by kernel_rfl⟩
def y25 : TyI := ⟨1, false, [(.slice none 0 0)], 86, 0, 1, [], 24, true, .i64⟩
theorem y25ok : mkTy Tryz.prog 25 = some y25 ∧ zeroOk y25.zero = true := ⟨by kernel_rfl, by kernel_rfl⟩
def y26 : TyI := ⟨1, false, [(.slice none 0 0)], 62, 0, 1, [], 24, true, .i64⟩
theorem y26ok : mkTy Tryz.prog 26 = some y26 ∧ zeroOk y26.zero = true := ⟨by kernel_rfl, by kernel_rfl⟩
def y28 : TyI := ⟨2, true, [(.slice none 0 0), (.int .i64 (.ofNat 0))], 0, 0, 3, [(0,26),(1,3)], 32, true, .i64⟩
theorem y28ok : mkTy Tryz.prog 28 = some y28 ∧ zeroOk y28.zero = true := ⟨by kernel_rfl, by kernel_rfl⟩
def y30 : TyI := ⟨10, true, [(.int .i64 (.ofNat 0)), (.int .i64 (.ofNat 0)), (.string ⟨#[]⟩), (.string ⟨#[]⟩), (.slice none 0 0), (.slice none 0 0), (.slice none 0 0), (.slice none 0 0), (.int .i64 (.ofNat 0)), (.int .i64 (.ofNat 0))], 0, 0, 3, [(0,3),(1,2),(2,9),(3,9),(4,23),(5,24),(6,25),(7,28),(9,3)], 160, true, .i64⟩
theorem y30ok : mkTy Tryz.prog 30 = some y30 ∧ zeroOk y30.zero = true := ⟨by kernel_rfl, by kernel_rfl⟩
def y32 : TyI := ⟨1, false, [(.slice none 0 0)], 9, 0, 1, [], 24, true, .i64⟩
theorem y32ok : mkTy Tryz.prog 32 = some y32 ∧ zeroOk y32.zero = true := ⟨by kernel_rfl, by kernel_rfl⟩
def y37 : TyI := ⟨1, false, [.nilFunc], 0, 0, 0, [], 8, true, .i64⟩
theorem y37ok : mkTy Tryz.prog 37 = some y37 ∧ zeroOk y37.zero = true := ⟨by kernel_rfl, by kernel_rfl⟩
def y40 : TyI := ⟨1, false, [(.pointer none)], 45, 0, 8, [], 8, true, .i64⟩
theorem y40ok : mkTy Tryz.prog 40 = some y40 ∧ zeroOk y40.zero = true := ⟨by kernel_rfl, by kernel_rfl⟩
def y42 : TyI := ⟨1, false, [(.pointer none)], 67, 0, 8, [], 8, true, .i64⟩
theorem y42ok : mkTy Tryz.prog 42 = some y42 ∧ zeroOk y42.zero = true := ⟨by kernel_rfl, by kernel_rfl⟩
def y43 : TyI := ⟨1, false, [(.slice none 0 0)], 120, 0, 1, [], 24, true, .i64⟩
theorem y43ok : mkTy Tryz.prog 43 = some y43 ∧ zeroOk y43.zero = true := ⟨by kernel_rfl, by kernel_rfl⟩
def y45 : TyI := ⟨5, true, [(.pointer none), (.slice none 0 0), (.int .i64 (.ofNat 0)), (.bool false), (.int .i64 (.ofNat 0))], 0, 0, 3, [(0,42),(1,43),(2,3),(3,4),(4,3)], 56, true, .i64⟩
theorem y45ok : mkTy Tryz.prog 45 = some y45 ∧ zeroOk y45.zero = true := ⟨by kernel_rfl, by kernel_rfl⟩
def y46 : TyI := ⟨1, false, [(.int .i64 (.ofNat 0))], 0, 0, 6, [], 8, true, .i64⟩
theorem y46ok : mkTy Tryz.prog 46 = some y46 ∧ zeroOk y46.zero = true := ⟨by kernel_rfl, by kernel_rfl⟩
def y51 : TyI := ⟨1, false, [(.slice none 0 0)], 80, 0, 1, [], 24, true, .i64⟩
theorem y51ok : mkTy Tryz.prog 51 = some y51 ∧ zeroOk y51.zero = true := ⟨by kernel_rfl, by kernel_rfl⟩
def y55 : TyI := ⟨1, false, [(.slice none 0 0)], 28, 0, 1, [], 24, true, .i64⟩
theorem y55ok : mkTy Tryz.prog 55 = some y55 ∧ zeroOk y55.zero = true := ⟨by kernel_rfl, by kernel_rfl⟩
def y59 : TyI := ⟨1, false, [(.slice none 0 0)], 100, 0, 1, [], 24, true, .i64⟩
theorem y59ok : mkTy Tryz.prog 59 = some y59 ∧ zeroOk y59.zero = true := ⟨by kernel_rfl, by kernel_rfl⟩
def y60 : TyI := ⟨2, true, [(.int .i64 (.ofNat 0)), (.int .i64 (.ofNat 0))], 3, 2, 2, [], 16, true, .i64⟩
theorem y60ok : mkTy Tryz.prog 60 = some y60 ∧ zeroOk y60.zero = true := ⟨by kernel_rfl, by kernel_rfl⟩
def y62 : TyI := ⟨8, true, [(.int .i64 (.ofNat 0)), (.int .i64 (.ofNat 0)), (.int .i64 (.ofNat 0)), (.string ⟨#[]⟩), (.slice none 0 0), (.slice none 0 0), (.int .i64 (.ofNat 0)), (.int .i64 (.ofNat 0))], 0, 0, 3, [(0,3),(1,2),(2,2),(3,9),(4,22),(5,59),(6,60)], 104, true, .i64⟩
theorem y62ok : mkTy Tryz.prog 62 = some y62 ∧ zeroOk y62.zero = true := ⟨by kernel_rfl, by kernel_rfl⟩
def y65 : TyI := ⟨2, true, [(.int .i64 (.ofNat 0)), (.string ⟨#[]⟩)], 0, 0, 3, [(0,3),(1,9)], 24, true, .i64⟩
theorem y65ok : mkTy Tryz.prog 65 = some y65 ∧ zeroOk y65.zero = true := ⟨by kernel_rfl, by kernel_rfl⟩
def y67 : TyI := ⟨2, true, [(.slice none 0 0), (.int .i64 (.ofNat 0))], 0, 0, 3, [(0,22),(1,3)], 32, true, .i64⟩
theorem y67ok : mkTy Tryz.prog 67 = some y67 ∧ zeroOk y67.zero = true := ⟨by kernel_rfl, by kernel_rfl⟩
def y68 : TyI := ⟨1, false, [(.slice none 0 0)], 103, 0, 1, [], 24, true, .i64⟩
theorem y68ok : mkTy Tryz.prog 68 = some y68 ∧ zeroOk y68.zero = true := ⟨by kernel_rfl, by kernel_rfl⟩
def y71 : TyI := ⟨1, false, [(.pointer none)], 73, 0, 8, [], 8, true, .i64⟩
theorem y71ok : mkTy Tryz.prog 71 = some y71 ∧ zeroOk y71.zero = true := ⟨by kernel_rfl, by kernel_rfl⟩
def y73 : TyI := ⟨6, true, [(.slice none 0 0), (.int .i64 (.ofNat 0)), (.int .i64 (.ofNat 0)), (.int .i64 (.ofNat 0)), (.int .i64 (.ofNat 0)), (.bool false)], 0, 0, 3, [(0,68),(1,3),(2,3),(3,46),(4,3),(5,4)], 64, true, .i64⟩
theorem y73ok : mkTy Tryz.prog 73 = some y73 ∧ zeroOk y73.zero = true := ⟨by kernel_rfl, by kernel_rfl⟩
def y80 : TyI := ⟨2, true, [(.string ⟨#[]⟩), (.int .i64 (.ofNat 0))], 0, 0, 3, [(0,9),(1,3)], 24, true, .i64⟩
theorem y80ok : mkTy Tryz.prog 80 = some y80 ∧ zeroOk y80.zero = true := ⟨by kernel_rfl, by kernel_rfl⟩
def y81 : TyI := ⟨1, false, [(.slice none 0 0)], 89, 0, 1, [], 24, true, .i64⟩
theorem y81ok : mkTy Tryz.prog 81 = some y81 ∧ zeroOk y81.zero = true := ⟨by kernel_rfl, by kernel_rfl⟩
def y82 : TyI := ⟨1, false, [(.slice none 0 0)], 84, 0, 1, [], 24, true, .i64⟩
theorem y82ok : mkTy Tryz.prog 82 = some y82 ∧ zeroOk y82.zero = true := ⟨by kernel_rfl, by kernel_rfl⟩
def y84 : TyI := ⟨7, true, [(.int .i64 (.ofNat 0)), (.string ⟨#[]⟩), (.int .i64 (.ofNat 0)), (.string ⟨#[]⟩), (.int .i64 (.ofNat 0)), (.string ⟨#[]⟩), (.slice none 0 0)], 0, 0, 3, [(0,3),(1,9),(2,2),(3,9),(4,65),(6,82)], 96, true, .i64⟩
theorem y84ok : mkTy Tryz.prog 84 = some y84 ∧ zeroOk y84.zero = true := ⟨by kernel_rfl, by kernel_rfl⟩
def y86 : TyI := ⟨19, true, [(.slice none 0 0), (.int .i64 (.ofNat 0)), (.string ⟨#[]⟩), (.int .i64 (.ofNat 0)), (.string ⟨#[]⟩), (.int .i64 (.ofNat 0)), (.string ⟨#[]⟩), (.slice none 0 0), (.int .i64 (.ofNat 0)), (.int .i64 (.ofNat 0)), (.string ⟨#[]⟩), (.string ⟨#[]⟩), (.slice none 0 0), (.slice none 0 0), (.slice none 0 0), (.slice none 0 0), (.int .i64 (.ofNat 0)), (.int .i64 (.ofNat 0)), (.int .i64 (.ofNat 0))], 0, 0, 3, [(0,81),(1,84),(8,30),(18,3)], 288, true, .i64⟩
theorem y86ok : mkTy Tryz.prog 86 = some y86 ∧ zeroOk y86.zero = true := ⟨by kernel_rfl, by kernel_rfl⟩
def y89 : TyI := ⟨5, true, [(.int .i64 (.ofNat 0)), (.int .i64 (.ofNat 0)), (.string ⟨#[]⟩), (.slice none 0 0), (.slice none 0 0)], 0, 0, 3, [(0,3),(1,2),(2,9),(3,81),(4,24)], 80, true, .i64⟩
theorem y89ok : mkTy Tryz.prog 89 = some y89 ∧ zeroOk y89.zero = true := ⟨by kernel_rfl, by kernel_rfl⟩
def y95 : TyI := ⟨1, false, [.nilFunc], 0, 0, 0, [], 8, true, .i64⟩
theorem y95ok : mkTy Tryz.prog 95 = some y95 ∧ zeroOk y95.zero = true := ⟨by kernel_rfl, by kernel_rfl⟩
def y100 : TyI := ⟨4, true, [(.int .i64 (.ofNat 0)), (.string ⟨#[]⟩), (.int .i64 (.ofNat 0)), (.bool false)], 0, 0, 3, [(0,65),(2,3),(3,4)], 40, true, .i64⟩
theorem y100ok : mkTy Tryz.prog 100 = some y100 ∧ zeroOk y100.zero = true := ⟨by kernel_rfl, by kernel_rfl⟩
def y103 : TyI := ⟨4, true, [(.int .i64 (.ofNat 0)), (.string ⟨#[]⟩), (.int .i64 (.ofNat 0)), (.int .i64 (.ofNat 0))], 0, 0, 3, [(0,3),(1,9),(2,2),(3,3)], 40, true, .i64⟩
theorem y103ok : mkTy Tryz.prog 103 = some y103 ∧ zeroOk y103.zero = true := ⟨by kernel_rfl, by kernel_rfl⟩
def y114 : TyI := ⟨2, true, [(.string ⟨#[]⟩), (.int .i64 (.ofNat 0))], 0, 0, 3, [(0,9),(1,3)], 24, true, .i64⟩
theorem y114ok : mkTy Tryz.prog 114 = some y114 ∧ zeroOk y114.zero = true := ⟨by kernel_rfl, by kernel_rfl⟩
def y120 : TyI := ⟨4, true, [(.string ⟨#[]⟩), (.string ⟨#[]⟩), (.slice none 0 0), (.int .i64 (.ofNat 0))], 0, 0, 3, [(0,9),(1,9),(2,22),(3,3)], 64, true, .i64⟩
theorem y120ok : mkTy Tryz.prog 120 = some y120 ∧ zeroOk y120.zero = true := ⟨by kernel_rfl, by kernel_rfl⟩
def y127 : TyI := ⟨3, true, [(.slice none 0 0), (.slice none 0 0), (.bool false)], 0, 0, 3, [(0,22),(1,22),(2,4)], 56, true, .i64⟩
theorem y127ok : mkTy Tryz.prog 127 = some y127 ∧ zeroOk y127.zero = true := ⟨by kernel_rfl, by kernel_rfl⟩
def y136 : TyI := ⟨1, false, [.nilFunc], 0, 0, 0, [], 8, true, .i64⟩
theorem y136ok : mkTy Tryz.prog 136 = some y136 ∧ zeroOk y136.zero = true := ⟨by kernel_rfl, by kernel_rfl⟩
def y148 : TyI := ⟨1, false, [(.slice none 0 0)], 5, 0, 1, [], 24, true, .i64⟩
theorem y148ok : mkTy Tryz.prog 148 = some y148 ∧ zeroOk y148.zero = true := ⟨by kernel_rfl, by kernel_rfl⟩
def y153 : TyI := ⟨1, false, [(.pointer none)], 157, 0, 8, [], 8, true, .i64⟩
theorem y153ok : mkTy Tryz.prog 153 = some y153 ∧ zeroOk y153.zero = true := ⟨by kernel_rfl, by kernel_rfl⟩
def y154 : TyI := ⟨1, false, [(.slice none 0 0)], 127, 0, 1, [], 24, true, .i64⟩
theorem y154ok : mkTy Tryz.prog 154 = some y154 ∧ zeroOk y154.zero = true := ⟨by kernel_rfl, by kernel_rfl⟩
def y155 : TyI := ⟨1, false, [(.slice none 0 0)], 179, 0, 1, [], 24, true, .i64⟩
theorem y155ok : mkTy Tryz.prog 155 = some y155 ∧ zeroOk y155.zero = true := ⟨by kernel_rfl, by kernel_rfl⟩
def y157 : TyI := ⟨5, true, [(.slice none 0 0), (.int .i64 (.ofNat 0)), (.slice none 0 0), (.slice none 0 0), (.slice none 0 0)], 0, 0, 3, [(0,28),(2,154),(3,155),(4,22)], 104, true, .i64⟩
theorem y157ok : mkTy Tryz.prog 157 = some y157 ∧ zeroOk y157.zero = true := ⟨by kernel_rfl, by kernel_rfl⟩
def y164 : TyI := ⟨1, false, [(.int .u64 (.ofNat 0))], 0, 0, 6, [], 8, true, .u64⟩
theorem y164ok : mkTy Tryz.prog 164 = some y164 ∧ zeroOk y164.zero = true := ⟨by kernel_rfl, by kernel_rfl⟩
def y175 : TyI := ⟨1, false, [(.slice none 0 0)], 4, 0, 1, [], 24, true, .i64⟩
theorem y175ok : mkTy Tryz.prog 175 = some y175 ∧ zeroOk y175.zero = true := ⟨by kernel_rfl, by kernel_rfl⟩
def y179 : TyI := ⟨1, false, [(.slice none 0 0)], 183, 0, 1, [], 24, true, .i64⟩
theorem y179ok : mkTy Tryz.prog 179 = some y179 ∧ zeroOk y179.zero = true := ⟨by kernel_rfl, by kernel_rfl⟩
def y181 : TyI := ⟨1, false, [(.slice none 0 0)], 184, 0, 1, [], 24, true, .i64⟩
theorem y181ok : mkTy Tryz.prog 181 = some y181 ∧ zeroOk y181.zero = true := ⟨by kernel_rfl, by kernel_rfl⟩
def y183 : TyI := ⟨3, true, [(.int .i64 (.ofNat 0)), (.int .i64 (.ofNat 0)), (.slice none 0 0)], 0, 0, 3, [(0,3),(1,3),(2,181)], 40, true, .i64⟩
theorem y183ok : mkTy Tryz.prog 183 = some y183 ∧ zeroOk y183.zero = true := ⟨by kernel_rfl, by kernel_rfl⟩
def y184 : TyI := ⟨1, false, [(.slice none 0 0)], 154, 0, 1, [], 24, true, .i64⟩
theorem y184ok : mkTy Tryz.prog 184 = some y184 ∧ zeroOk y184.zero = true := ⟨by kernel_rfl, by kernel_rfl⟩
def y187 : TyI := ⟨1, false, [(.int .u64 (.ofNat 0))], 0, 0, 6, [], 8, true, .u64⟩
theorem y187ok : mkTy Tryz.prog 187 = some y187 ∧ zeroOk y187.zero = true := ⟨by kernel_rfl, by kernel_rfl⟩
def y196 : TyI := ⟨1, false, [(.slice none 0 0)], 233, 0, 1, [], 24, true, .i64⟩
theorem y196ok : mkTy Tryz.prog 196 = some y196 ∧ zeroOk y196.zero = true := ⟨by kernel_rfl, by kernel_rfl⟩
def y199 : TyI := ⟨1, false, [(.pointer none)], 201, 0, 8, [], 8, true, .i64⟩
theorem y199ok : mkTy Tryz.prog 199 = some y199 ∧ zeroOk y199.zero = true := ⟨by kernel_rfl, by kernel_rfl⟩
def y201 : TyI := ⟨12, true, [(.slice none 0 0), (.int .i64 (.ofNat 0)), (.bool false), (.bool false), (.bool false), (.int .i64 (.ofNat 0)), (.slice none 0 0), (.int .i64 (.ofNat 0)), (.slice none 0 0), (.slice none 0 0), (.slice none 0 0), (.slice none 0 0)], 0, 0, 3, [(0,196),(1,3),(2,4),(3,4),(4,4),(5,3),(6,28),(8,32),(9,22),(10,175),(11,32)], 176, true, .i64⟩
theorem y201ok : mkTy Tryz.prog 201 = some y201 ∧ zeroOk y201.zero = true := ⟨by kernel_rfl, by kernel_rfl⟩
def y205 : TyI := ⟨1, false, [(.slice none 0 0)], 208, 0, 1, [], 24, true, .i64⟩
theorem y205ok : mkTy Tryz.prog 205 = some y205 ∧ zeroOk y205.zero = true := ⟨by kernel_rfl, by kernel_rfl⟩
def y208 : TyI := ⟨2, true, [(.slice none 0 0), (.slice none 0 0)], 0, 0, 3, [(0,22),(1,22)], 48, true, .i64⟩
theorem y208ok : mkTy Tryz.prog 208 = some y208 ∧ zeroOk y208.zero = true := ⟨by kernel_rfl, by kernel_rfl⟩
def y212 : TyI := ⟨2, true, [(.int .i64 (.ofNat 0)), (.int .i64 (.ofNat 0))], 0, 0, 3, [(0,3),(1,3)], 16, true, .i64⟩
theorem y212ok : mkTy Tryz.prog 212 = some y212 ∧ zeroOk y212.zero = true := ⟨by kernel_rfl, by kernel_rfl⟩
def y233 : TyI := ⟨2, true, [(.int .i64 (.ofNat 0)), (.string ⟨#[]⟩)], 0, 0, 3, [(0,3),(1,9)], 24, true, .i64⟩
theorem y233ok : mkTy Tryz.prog 233 = some y233 ∧ zeroOk y233.zero = true := ⟨by kernel_rfl, by kernel_rfl⟩
def y240 : TyI := ⟨1, false, [(.slice none 0 0)], 257, 0, 1, [], 24, true, .i64⟩
theorem y240ok : mkTy Tryz.prog 240 = some y240 ∧ zeroOk y240.zero = true := ⟨by kernel_rfl, by kernel_rfl⟩
def y253 : TyI := ⟨1, false, [.nilFunc], 0, 0, 0, [], 8, true, .i64⟩
theorem y253ok : mkTy Tryz.prog 253 = some y253 ∧ zeroOk y253.zero = true := ⟨by kernel_rfl, by kernel_rfl⟩
def y257 : TyI := ⟨2, true, [(.int .i64 (.ofNat 0)), (.int .i64 (.ofNat 0))], 0, 0, 3, [(0,2),(1,2)], 16, true, .i64⟩
theorem y257ok : mkTy Tryz.prog 257 = some y257 ∧ zeroOk y257.zero = true := ⟨by kernel_rfl, by kernel_rfl⟩
def y271 : TyI := ⟨2, true, [(.bool false), (.bool false)], 4, 2, 2, [], 2, true, .i64⟩
theorem y271ok : mkTy Tryz.prog 271 = some y271 ∧ zeroOk y271.zero = true := ⟨by kernel_rfl, by kernel_rfl⟩
def tysT : Tr TyI := (.nd (.nd (.nd (.nd (.nd (.nd (.nd (.nd .lf (some y127) .lf) none .lf) none (.nd .lf (some y95) .lf)) none (.nd (.nd (.nd (.nd .lf (some y271) .lf) none .lf) none .lf) none (.nd (.nd .lf (some y175) .lf) none .lf))) none (.nd (.nd (.nd .lf (some y71) (.nd .lf (some y199) .lf)) none (.nd .lf (some y103) .lf)) (some y23) (.nd .lf (some y55) (.nd (.nd .lf (some y183) .lf) none .lf)))) (some y3) (.nd (.nd (.nd (.nd .lf (some y67) .lf) none .lf) none (.nd .lf (some y51) (.nd (.nd .lf (some y179) .lf) none .lf))) none (.nd (.nd .lf (some y43) .lf) none (.nd (.nd (.nd .lf (some y155) .lf) none .lf) (some y59) (.nd (.nd .lf (some y187) .lf) none .lf))))) none (.nd (.nd (.nd (.nd (.nd (.nd (.nd .lf (some y257) .lf) none .lf) (some y65) .lf) none .lf) none (.nd (.nd .lf (some y81) .lf) none .lf)) (some y9) (.nd (.nd (.nd .lf (some y73) (.nd .lf (some y201) .lf)) none (.nd .lf none (.nd .lf (some y233) .lf))) (some y25) (.nd (.nd (.nd .lf (some y153) .lf) (some y89) .lf) none .lf))) (some y5) (.nd (.nd (.nd .lf (some y37) .lf) none (.nd .lf none (.nd (.nd .lf (some y181) .lf) none .lf))) none (.nd (.nd (.nd .lf none (.nd .lf (some y205) .lf)) (some y45) .lf) none (.nd (.nd (.nd .lf (some y157) .lf) none .lf) none (.nd .lf none (.nd .lf (some y253) .lf))))))) none (.nd (.nd (.nd (.nd (.nd .lf (some y32) .lf) none (.nd (.nd .lf (some y80) (.nd .lf (some y208) .lf)) none (.nd .lf none (.nd .lf (some y240) .lf)))) none (.nd (.nd (.nd (.nd .lf (some y136) .lf) none .lf) (some y40) .lf) (some y24) (.nd .lf none (.nd (.nd .lf (some y184) .lf) (some y120) .lf)))) (some y4) (.nd (.nd (.nd (.nd .lf (some y68) (.nd .lf (some y196) .lf)) none (.nd (.nd .lf (some y164) .lf) (some y100) .lf)) none (.nd (.nd (.nd .lf (some y148) .lf) (some y84) (.nd .lf (some y212) .lf)) none .lf)) none (.nd .lf (some y28) (.nd .lf (some y60) .lf)))) (some y2) (.nd (.nd (.nd .lf none (.nd (.nd .lf (some y82) .lf) none (.nd .lf (some y114) .lf))) none (.nd (.nd .lf (some y42) .lf) (some y26) (.nd (.nd (.nd .lf (some y154) .lf) none .lf) none .lf))) none (.nd (.nd .lf (some y22) (.nd (.nd .lf (some y86) .lf) none .lf)) none (.nd (.nd .lf (some y46) .lf) (some y30) (.nd .lf (some y62) .lf))))))
def tys : Types := ⟨tysT, noAsk⟩
theorem tysAll : Tr.All (fun t i => mkTy Tryz.prog t = some i ∧ zeroOk i.zero = true) id tysT := ⟨trivial, ⟨trivial, ⟨y3ok, ⟨trivial, ⟨trivial, ⟨trivial, ⟨trivial, ⟨y127ok, trivial, trivial⟩, trivial⟩, ⟨y95ok, trivial, trivial⟩⟩, ⟨trivial, ⟨trivial, ⟨trivial, ⟨y271ok, trivial, trivial⟩, trivial⟩, trivial⟩, ⟨trivial, ⟨y175ok, trivial, trivial⟩, trivial⟩⟩⟩, ⟨y23ok, ⟨trivial, ⟨y71ok, trivial, ⟨y199ok, trivial, trivial⟩⟩, ⟨y103ok, trivial, trivial⟩⟩, ⟨y55ok, trivial, ⟨trivial, ⟨y183ok, trivial, trivial⟩, trivial⟩⟩⟩⟩, ⟨trivial, ⟨trivial, ⟨trivial, ⟨y67ok, trivial, trivial⟩, trivial⟩, ⟨y51ok, trivial, ⟨trivial, ⟨y179ok, trivial, trivial⟩, trivial⟩⟩⟩, ⟨trivial, ⟨y43ok, trivial, trivial⟩, ⟨y59ok, ⟨trivial, ⟨y155ok, trivial, trivial⟩, trivial⟩, ⟨trivial, ⟨y187ok, trivial, trivial⟩, trivial⟩⟩⟩⟩⟩, ⟨y5ok, ⟨y9ok, ⟨trivial, ⟨trivial, ⟨y65ok, ⟨trivial, ⟨y257ok, trivial, trivial⟩, trivial⟩, trivial⟩, trivial⟩, ⟨trivial, ⟨y81ok, trivial, trivial⟩, trivial⟩⟩, ⟨y25ok, ⟨trivial, ⟨y73ok, trivial, ⟨y201ok, trivial, trivial⟩⟩, ⟨trivial, trivial, ⟨y233ok, trivial, trivial⟩⟩⟩, ⟨trivial, ⟨y89ok, ⟨y153ok, trivial, trivial⟩, trivial⟩, trivial⟩⟩⟩, ⟨trivial, ⟨trivial, ⟨y37ok, trivial, trivial⟩, ⟨trivial, trivial, ⟨trivial, ⟨y181ok, trivial, trivial⟩, trivial⟩⟩⟩, ⟨trivial, ⟨y45ok, ⟨trivial, trivial, ⟨y205ok, trivial, trivial⟩⟩, trivial⟩, ⟨trivial, ⟨trivial, ⟨y157ok, trivial, trivial⟩, trivial⟩, ⟨trivial, trivial, ⟨y253ok, trivial, trivial⟩⟩⟩⟩⟩⟩⟩, ⟨y2ok, ⟨y4ok, ⟨trivial, ⟨trivial, ⟨y32ok, trivial, trivial⟩, ⟨trivial, ⟨y80ok, trivial, ⟨y208ok, trivial, trivial⟩⟩, ⟨trivial, trivial, ⟨y240ok, trivial, trivial⟩⟩⟩⟩, ⟨y24ok, ⟨y40ok, ⟨trivial, ⟨y136ok, trivial, trivial⟩, trivial⟩, trivial⟩, ⟨trivial, trivial, ⟨y120ok, ⟨y184ok, trivial, trivial⟩, trivial⟩⟩⟩⟩, ⟨trivial, ⟨trivial, ⟨trivial, ⟨y68ok, trivial, ⟨y196ok, trivial, trivial⟩⟩, ⟨y100ok, ⟨y164ok, trivial, trivial⟩, trivial⟩⟩, ⟨trivial, ⟨y84ok, ⟨y148ok, trivial, trivial⟩, ⟨y212ok, trivial, trivial⟩⟩, trivial⟩⟩, ⟨y28ok, trivial, ⟨y60ok, trivial, trivial⟩⟩⟩⟩, ⟨trivial, ⟨trivial, ⟨trivial, trivial, ⟨trivial, ⟨y82ok, trivial, trivial⟩, ⟨y114ok, trivial, trivial⟩⟩⟩, ⟨y26ok, ⟨y42ok, trivial, trivial⟩, ⟨trivial, ⟨trivial, ⟨y154ok, trivial, trivial⟩, trivial⟩, trivial⟩⟩⟩, ⟨trivial, ⟨y22ok, trivial, ⟨trivial, ⟨y86ok, trivial, trivial⟩, trivial⟩⟩, ⟨y30ok, ⟨y46ok, trivial, trivial⟩, ⟨y62ok, trivial, trivial⟩⟩⟩⟩⟩⟩
theorem tysF : tysT.allB (fun i => !Nat.beq i.kind 3 || i.fields.all fun x => (tysT.get x.2).isSome) = true := by kernel_rfl
theorem tOk [Env] : TOk Tryz.prog tys := TOk.of tysAll tysF
end Go.Ev
