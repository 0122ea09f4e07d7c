/- The types of the program, as the evaluator asks for them. -/
import Derived.Test.YtaedechkfmjcnaaGreatDoorEvFast
import Derived.KernelRfl
import Derived.Test.YtaedechkfmjcnaaGreatDoorProg
set_option linter.all false
namespace Go.Ev
open Go.Proofs
abbrev i (n : Nat) : PV := .v (.int .i64 (.ofNat n))
abbrev j (n : Nat) : PV := .v (.int .i64 (.negSucc n))
abbrev nl : PV := .v (.slice none 0 0)
abbrev st (l : List Nat) : Value := .string ⟨⟨l.map UInt8.ofNat⟩⟩
abbrev sb (l : List Nat) : PV := .v (st l)
def y2 : TyI := ⟨1, false, [(.int .i64 (.ofNat 0))], 0, 0, 6, [], 8, true, .i64⟩
theorem y2ok : mkTy Tryz.prog 2 = some y2 ∧ zeroOk y2.zero = true := ⟨by kernel_rfl, by kernel_rfl⟩
def y3 : TyI := ⟨1, false, [(.int .i64 (.ofNat 0))], 0, 0, 6, [], 8, true, .i64⟩
theorem y3ok : mkTy Tryz.prog 3 = some y3 ∧ zeroOk y3.zero = true := ⟨by kernel_rfl, by kernel_rfl⟩
def y4 : TyI := ⟨1, false, [(.bool false)], 0, 0, 7, [], 1, true, .i64⟩
theorem y4ok : mkTy Tryz.prog 4 = some y4 ∧ zeroOk y4.zero = true := ⟨by kernel_rfl, by kernel_rfl⟩
def y5 : TyI := ⟨1, false, [(.int .u8 (.ofNat 0))], 0, 0, 6, [], 1, true, .u8⟩
theorem y5ok : mkTy Tryz.prog 5 = some y5 ∧ zeroOk y5.zero = true := ⟨by kernel_rfl, by kernel_rfl⟩
def y9 : TyI := ⟨1, false, [(.string ⟨#[]⟩)], 0, 0, 4, [], 16, true, .i64⟩
theorem y9ok : mkTy Tryz.prog 9 = some y9 ∧ zeroOk y9.zero = true := ⟨by kernel_rfl, by kernel_rfl⟩
def y24 : TyI := ⟨1, false, [(.slice none 0 0)], 60, 0, 1, [], 24, true, .i64⟩
theorem y24ok : mkTy Tryz.prog 24 = some y24 ∧ zeroOk y24.zero = true := ⟨by kernel_rfl, by kernel_rfl⟩
def y26 : TyI := ⟨3, true, [(.string ⟨#[]⟩), (.bool false), (.slice none 0 0)], 0, 0, 3, [(0,9),(1,4),(2,24)], 48, true, .i64⟩
theorem y26ok : mkTy Tryz.prog 26 = some y26 ∧ zeroOk y26.zero = true := ⟨by kernel_rfl, by kernel_rfl⟩
def y27 : TyI := ⟨1, false, [(.int .i64 (.ofNat 0))], 0, 0, 6, [], 8, true, .i64⟩
theorem y27ok : mkTy Tryz.prog 27 = some y27 ∧ zeroOk y27.zero = true := ⟨by kernel_rfl, by kernel_rfl⟩
def y30 : TyI := ⟨1, false, [(.slice none 0 0)], 64, 0, 1, [], 24, true, .i64⟩
theorem y30ok : mkTy Tryz.prog 30 = some y30 ∧ zeroOk y30.zero = true := ⟨by kernel_rfl, by kernel_rfl⟩
def y32 : TyI := ⟨6, true, [(.bool false), (.slice none 0 0), (.slice none 0 0), (.string ⟨#[]⟩), (.bool false), (.slice none 0 0)], 0, 0, 3, [(0,4),(1,24),(2,30),(3,26)], 104, true, .i64⟩
theorem y32ok : mkTy Tryz.prog 32 = some y32 ∧ zeroOk y32.zero = true := ⟨by kernel_rfl, by kernel_rfl⟩
def y37 : TyI := ⟨1, false, [(.int .u32 (.ofNat 0))], 0, 0, 6, [], 4, true, .u32⟩
theorem y37ok : mkTy Tryz.prog 37 = some y37 ∧ zeroOk y37.zero = true := ⟨by kernel_rfl, by kernel_rfl⟩
def y39 : TyI := ⟨1, false, [(.int .u64 (.ofNat 0))], 0, 0, 6, [], 8, true, .u64⟩
theorem y39ok : mkTy Tryz.prog 39 = some y39 ∧ zeroOk y39.zero = true := ⟨by kernel_rfl, by kernel_rfl⟩
def y40 : TyI := ⟨1, false, [(.slice none 0 0)], 5, 0, 1, [], 24, true, .i64⟩
theorem y40ok : mkTy Tryz.prog 40 = some y40 ∧ zeroOk y40.zero = true := ⟨by kernel_rfl, by kernel_rfl⟩
def y41 : TyI := ⟨1, false, [(.int .u64 (.ofNat 0))], 0, 0, 6, [], 8, true, .u64⟩
theorem y41ok : mkTy Tryz.prog 41 = some y41 ∧ zeroOk y41.zero = true := ⟨by kernel_rfl, by kernel_rfl⟩
def y44 : TyI := ⟨1, false, [(.pointer none)], 0, 0, 8, [], 8, true, .i64⟩
theorem y44ok : mkTy Tryz.prog 44 = some y44 ∧ zeroOk y44.zero = true := ⟨by kernel_rfl, by kernel_rfl⟩
def y46 : TyI := ⟨3, true, [(.string ⟨#[]⟩), (.int .i64 (.ofNat 0)), (.int .i64 (.ofNat 0))], 0, 0, 3, [(0,9),(1,3),(2,27)], 32, true, .i64⟩
theorem y46ok : mkTy Tryz.prog 46 = some y46 ∧ zeroOk y46.zero = true := ⟨by kernel_rfl, by kernel_rfl⟩
def y50 : TyI := ⟨1, false, [(.pointer none)], 0, 0, 8, [], 8, true, .i64⟩
theorem y50ok : mkTy Tryz.prog 50 = some y50 ∧ zeroOk y50.zero = true := ⟨by kernel_rfl, by kernel_rfl⟩
def y52 : TyI := ⟨3, true, [(.string ⟨#[]⟩), (.int .i64 (.ofNat 0)), (.int .i64 (.ofNat 0))], 0, 0, 3, [(0,9),(1,3),(2,27)], 32, true, .i64⟩
theorem y52ok : mkTy Tryz.prog 52 = some y52 ∧ zeroOk y52.zero = true := ⟨by kernel_rfl, by kernel_rfl⟩
def y55 : TyI := ⟨2, true, [(.string ⟨#[]⟩), (.int .i64 (.ofNat 0))], 0, 0, 3, [(0,9),(1,3)], 24, true, .i64⟩
theorem y55ok : mkTy Tryz.prog 55 = some y55 ∧ zeroOk y55.zero = true := ⟨by kernel_rfl, by kernel_rfl⟩
def y56 : TyI := ⟨1, false, [(.slice none 0 0)], 83, 0, 1, [], 24, true, .i64⟩
theorem y56ok : mkTy Tryz.prog 56 = some y56 ∧ zeroOk y56.zero = true := ⟨by kernel_rfl, by kernel_rfl⟩
def y58 : TyI := ⟨2, true, [(.slice none 0 0), (.int .i64 (.ofNat 0))], 0, 0, 3, [(0,56),(1,3)], 32, true, .i64⟩
theorem y58ok : mkTy Tryz.prog 58 = some y58 ∧ zeroOk y58.zero = true := ⟨by kernel_rfl, by kernel_rfl⟩
def y60 : TyI := ⟨4, true, [(.string ⟨#[]⟩), (.int .i64 (.ofNat 0)), (.slice none 0 0), (.int .i64 (.ofNat 0))], 0, 0, 3, [(0,55),(2,58)], 56, true, .i64⟩
theorem y60ok : mkTy Tryz.prog 60 = some y60 ∧ zeroOk y60.zero = true := ⟨by kernel_rfl, by kernel_rfl⟩
def y61 : TyI := ⟨1, false, [.nilFunc], 0, 0, 0, [], 8, true, .i64⟩
theorem y61ok : mkTy Tryz.prog 61 = some y61 ∧ zeroOk y61.zero = true := ⟨by kernel_rfl, by kernel_rfl⟩
def y64 : TyI := ⟨6, true, [(.int .i64 (.ofNat 0)), (.int .i64 (.ofNat 0)), (.slice none 0 0), (.int .i64 (.ofNat 0)), (.slice none 0 0), (.int .i64 (.ofNat 0))], 0, 0, 3, [(0,3),(1,3),(2,58),(4,58)], 80, true, .i64⟩
theorem y64ok : mkTy Tryz.prog 64 = some y64 ∧ zeroOk y64.zero = true := ⟨by kernel_rfl, by kernel_rfl⟩
def y65 : TyI := ⟨1, false, [.nilFunc], 0, 0, 0, [], 8, true, .i64⟩
theorem y65ok : mkTy Tryz.prog 65 = some y65 ∧ zeroOk y65.zero = true := ⟨by kernel_rfl, by kernel_rfl⟩
def y79 : TyI := ⟨1, false, [(.slice none 0 0)], 3, 0, 1, [], 24, true, .i64⟩
theorem y79ok : mkTy Tryz.prog 79 = some y79 ∧ zeroOk y79.zero = true := ⟨by kernel_rfl, by kernel_rfl⟩
def y80 : TyI := ⟨1, false, [(.slice none 0 0)], 114, 0, 1, [], 24, true, .i64⟩
theorem y80ok : mkTy Tryz.prog 80 = some y80 ∧ zeroOk y80.zero = true := ⟨by kernel_rfl, by kernel_rfl⟩
def y81 : TyI := ⟨2, true, [(.int .i64 (.ofNat 0)), (.int .i64 (.ofNat 0))], 3, 2, 2, [], 16, true, .i64⟩
theorem y81ok : mkTy Tryz.prog 81 = some y81 ∧ zeroOk y81.zero = true := ⟨by kernel_rfl, by kernel_rfl⟩
def y83 : TyI := ⟨8, true, [(.int .i64 (.ofNat 0)), (.int .i64 (.ofNat 0)), (.int .i64 (.ofNat 0)), (.string ⟨#[]⟩), (.slice none 0 0), (.slice none 0 0), (.int .i64 (.ofNat 0)), (.int .i64 (.ofNat 0))], 0, 0, 3, [(0,3),(1,2),(2,2),(3,9),(4,79),(5,80),(6,81)], 104, true, .i64⟩
theorem y83ok : mkTy Tryz.prog 83 = some y83 ∧ zeroOk y83.zero = true := ⟨by kernel_rfl, by kernel_rfl⟩
def y84 : TyI := ⟨1, false, [.nilFunc], 0, 0, 0, [], 8, true, .i64⟩
theorem y84ok : mkTy Tryz.prog 84 = some y84 ∧ zeroOk y84.zero = true := ⟨by kernel_rfl, by kernel_rfl⟩
def y85 : TyI := ⟨1, false, [(.pointer none)], 0, 0, 8, [], 8, true, .i64⟩
theorem y85ok : mkTy Tryz.prog 85 = some y85 ∧ zeroOk y85.zero = true := ⟨by kernel_rfl, by kernel_rfl⟩
def y87 : TyI := ⟨1, true, [(.slice none 0 0)], 0, 0, 3, [(0,40)], 24, true, .i64⟩
theorem y87ok : mkTy Tryz.prog 87 = some y87 ∧ zeroOk y87.zero = true := ⟨by kernel_rfl, by kernel_rfl⟩
def y89 : TyI := ⟨256, true, [(.int .u32 (.ofNat 0)), (.int .u32 (.ofNat 0)), (.int .u32 (.ofNat 0)), (.int .u32 (.ofNat 0)), (.int .u32 (.ofNat 0)), (.int .u32 (.ofNat 0)), (.int .u32 (.ofNat 0)), (.int .u32 (.ofNat 0)), (.int .u32 (.ofNat 0)), (.int .u32 (.ofNat 0)), (.int .u32 (.ofNat 0)), (.int .u32 (.ofNat 0)), (.int .u32 (.ofNat 0)), (.int .u32 (.ofNat 0)), (.int .u32 (.ofNat 0)), (.int .u32 (.ofNat 0)), (.int .u32 (.ofNat 0)), (.int .u32 (.ofNat 0)), (.int .u32 (.ofNat 0)), (.int .u32 (.ofNat 0)), (.int .u32 (.ofNat 0)), (.int .u32 (.ofNat 0)), (.int .u32 (.ofNat 0)), (.int .u32 (.ofNat 0)), (.int .u32 (.ofNat 0)), (.int .u32 (.ofNat 0)), (.int .u32 (.ofNat 0)), (.int .u32 (.ofNat 0)), (.int .u32 (.ofNat 0)), (.int .u32 (.ofNat 0)), (.int .u32 (.ofNat 0)), (.int .u32 (.ofNat 0)), (.int .u32 (.ofNat 0)), (.int .u32 (.ofNat 0)), (.int .u32 (.ofNat 0)), (.int .u32 (.ofNat 0)), (.int .u32 (.ofNat 0)), (.int .u32 (.ofNat 0)), (.int .u32 (.ofNat 0)), (.int .u32 (.ofNat 0)), (.int .u32 (.ofNat 0)), (.int .u32 (.ofNat 0)), (.int .u32 (.ofNat 0)), (.int .u32 (.ofNat 0)), (.int .u32 (.ofNat 0)), (.int .u32 (.ofNat 0)), (.int .u32 (.ofNat 0)), (.int .u32 (.ofNat 0)), (.int .u32 (.ofNat 0)), (.int .u32 (.ofNat 0)), (.int .u32 (.ofNat 0)), (.int .u32 (.ofNat 0)), (.int .u32 (.ofNat 0)), (.int .u32 (.ofNat 0)), (.int .u32 (.ofNat 0)), (.int .u32 (.ofNat 0)), (.int .u32 (.ofNat 0)), (.int .u32 (.ofNat 0)), (.int .u32 (.ofNat 0)), (.int .u32 (.ofNat 0)), (.int .u32 (.ofNat 0)), (.int .u32 (.ofNat 0)), (.int .u32 (.ofNat 0)), (.int .u32 (.ofNat 0)), (.int .u32 (.ofNat 0)), (.int .u32 (.ofNat 0)), (.int .u32 (.ofNat 0)), (.int .u32 (.ofNat 0)), (.int .u32 (.ofNat 0)), (.int .u32 (.ofNat 0)), (.int .u32 (.ofNat 0)), (.int .u32 (.ofNat 0)), (.int .u32 (.ofNat 0)), (.int .u32 (.ofNat 0)), (.int .u32 (.ofNat 0)), (.int .u32 (.ofNat 0)), (.int .u32 (.ofNat 0)), (.int .u32 (.ofNat 0)), (.int .u32 (.ofNat 0)), (.int .u32 (.ofNat 0)), (.int .u32 (.ofNat 0)), (.int .u32 (.ofNat 0)), (.int .u32 (.ofNat 0)), (.int .u32 (.ofNat 0)), (.int .u32 (.ofNat 0)), (.int .u32 (.ofNat 0)), (.int .u32 (.ofNat 0)), (.int .u32 (.ofNat 0)), (.int .u32 (.ofNat 0)), (.int .u32 (.ofNat 0)), (.int .u32 (.ofNat 0)), (.int .u32 (.ofNat 0)), (.int .u32 (.ofNat 0)), (.int .u32 (.ofNat 0)), (.int .u32 (.ofNat 0)), (.int .u32 (.ofNat 0)), (.int .u32 (.ofNat 0)), (.int .u32 (.ofNat 0)), (.int .u32 (.ofNat 0)), (.int .u32 (.ofNat 0)), (.int .u32 (.ofNat 0)), (.int .u32 (.ofNat 0)), (.int .u32 (.ofNat 0)), (.int .u32 (.ofNat 0)), (.int .u32 (.ofNat 0)), (.int .u32 (.ofNat 0)), (.int .u32 (.ofNat 0)), (.int .u32 (.ofNat 0)), (.int .u32 (.ofNat 0)), (.int .u32 (.ofNat 0)), (.int .u32 (.ofNat 0)), (.int .u32 (.ofNat 0)), (.int .u32 (.ofNat 0)), (.int .u32 (.ofNat 0)), (.int .u32 (.ofNat 0)), (.int .u32 (.ofNat 0)), (.int .u32 (.ofNat 0)), (.int .u32 (.ofNat 0)), (.int .u32 (.ofNat 0)), (.int .u32 (.ofNat 0)), (.int .u32 (.ofNat 0)), (.int .u32 (.ofNat 0)), (.int .u32 (.ofNat 0)), (.int .u32 (.ofNat 0)), (.int .u32 (.ofNat 0)), (.int .u32 (.ofNat 0)), (.int .u32 (.ofNat 0)), (.int .u32 (.ofNat 0)), (.int .u32 (.ofNat 0)), (.int .u32 (.ofNat 0)), (.int .u32 (.ofNat 0)), (.int .u32 (.ofNat 0)), (.int .u32 (.ofNat 0)), (.int .u32 (.ofNat 0)), (.int .u32 (.ofNat 0)), (.int .u32 (.ofNat 0)), (.int .u32 (.ofNat 0)), (.int .u32 (.ofNat 0)), (.int .u32 (.ofNat 0)), (.int .u32 (.ofNat 0)), (.int .u32 (.ofNat 0)), (.int .u32 (.ofNat 0)), (.int .u32 (.ofNat 0)), (.int .u32 (.ofNat 0)), (.int .u32 (.ofNat 0)), (.int .u32 (.ofNat 0)), (.int .u32 (.ofNat 0)), (.int .u32 (.ofNat 0)), (.int .u32 (.ofNat 0)), (.int .u32 (.ofNat 0)), (.int .u32 (.ofNat 0)), (.int .u32 (.ofNat 0)), (.int .u32 (.ofNat 0)), (.int .u32 (.ofNat 0)), (.int .u32 (.ofNat 0)), (.int .u32 (.ofNat 0)), (.int .u32 (.ofNat 0)), (.int .u32 (.ofNat 0)), (.int .u32 (.ofNat 0)), (.int .u32 (.ofNat 0)), (.int .u32 (.ofNat 0)), (.int .u32 (.ofNat 0)), (.int .u32 (.ofNat 0)), (.int .u32 (.ofNat 0)), (.int .u32 (.ofNat 0)), (.int .u32 (.ofNat 0)), (.int .u32 (.ofNat 0)), (.int .u32 (.ofNat 0)), (.int .u32 (.ofNat 0)), (.int .u32 (.ofNat 0)), (.int .u32 (.ofNat 0)), (.int .u32 (.ofNat 0)), (.int .u32 (.ofNat 0)), (.int .u32 (.ofNat 0)), (.int .u32 (.ofNat 0)), (.int .u32 (.ofNat 0)), (.int .u32 (.ofNat 0)), (.int .u32 (.ofNat 0)), (.int .u32 (.ofNat 0)), (.int .u32 (.ofNat 0)), (.int .u32 (.ofNat 0)), (.int .u32 (.ofNat 0)), (.int .u32 (.ofNat 0)), (.int .u32 (.ofNat 0)), (.int .u32 (.ofNat 0)), (.int .u32 (.ofNat 0)), (.int .u32 (.ofNat 0)), (.int .u32 (.ofNat 0)), (.int .u32 (.ofNat 0)), (.int .u32 (.ofNat 0)), (.int .u32 (.ofNat 0)), (.int .u32 (.ofNat 0)), (.int .u32 (.ofNat 0)), (.int .u32 (.ofNat 0)), (.int .u32 (.ofNat 0)), (.int .u32 (.ofNat 0)), (.int .u32 (.ofNat 0)), (.int .u32 (.ofNat 0)), (.int .u32 (.ofNat 0)), (.int .u32 (.ofNat 0)), (.int .u32 (.ofNat 0)), (.int .u32 (.ofNat 0)), (.int .u32 (.ofNat 0)), (.int .u32 (.ofNat 0)), (.int .u32 (.ofNat 0)), (.int .u32 (.ofNat 0)), (.int .u32 (.ofNat 0)), (.int .u32 (.ofNat 0)), (.int .u32 (.ofNat 0)), (.int .u32 (.ofNat 0)), (.int .u32 (.ofNat 0)), (.int .u32 (.ofNat 0)), (.int .u32 (.ofNat 0)), (.int .u32 (.ofNat 0)), (.int .u32 (.ofNat 0)), (.int .u32 (.ofNat 0)), (.int .u32 (.ofNat 0)), (.int .u32 (.ofNat 0)), (.int .u32 (.ofNat 0)), (.int .u32 (.ofNat 0)), (.int .u32 (.ofNat 0)), (.int .u32 (.ofNat 0)), (.int .u32 (.ofNat 0)), (.int .u32 (.ofNat 0)), (.int .u32 (.ofNat 0)), (.int .u32 (.ofNat 0)), (.int .u32 (.ofNat 0)), (.int .u32 (.ofNat 0)), (.int .u32 (.ofNat 0)), (.int .u32 (.ofNat 0)), (.int .u32 (.ofNat 0)), (.int .u32 (.ofNat 0)), (.int .u32 (.ofNat 0)), (.int .u32 (.ofNat 0)), (.int .u32 (.ofNat 0)), (.int .u32 (.ofNat 0)), (.int .u32 (.ofNat 0)), (.int .u32 (.ofNat 0)), (.int .u32 (.ofNat 0)), (.int .u32 (.ofNat 0)), (.int .u32 (.ofNat 0)), (.int .u32 (.ofNat 0)), (.int .u32 (.ofNat 0)), (.int .u32 (.ofNat 0)), (.int .u32 (.ofNat 0)), (.int .u32 (.ofNat 0)), (.int .u32 (.ofNat 0)), (.int .u32 (.ofNat 0)), (.int .u32 (.ofNat 0)), (.int .u32 (.ofNat 0)), (.int .u32 (.ofNat 0)), (.int .u32 (.ofNat 0)), (.int .u32 (.ofNat 0)), (.int .u32 (.ofNat 0)), (.int .u32 (.ofNat 0)), (.int .u32 (.ofNat 0))], 37, 256, 2, [], 1024, true, .i64⟩
theorem y89ok : mkTy Tryz.prog 89 = some y89 ∧ zeroOk y89.zero = true := ⟨by kernel_rfl, by kernel_rfl⟩
def y111 : TyI := ⟨2, true, [(.int .i64 (.ofNat 0)), (.string ⟨#[]⟩)], 0, 0, 3, [(0,3),(1,9)], 24, true, .i64⟩
theorem y111ok : mkTy Tryz.prog 111 = some y111 ∧ zeroOk y111.zero = true := ⟨by kernel_rfl, by kernel_rfl⟩
def y114 : TyI := ⟨4, true, [(.int .i64 (.ofNat 0)), (.string ⟨#[]⟩), (.int .i64 (.ofNat 0)), (.bool false)], 0, 0, 3, [(0,111),(2,3),(3,4)], 40, true, .i64⟩
theorem y114ok : mkTy Tryz.prog 114 = some y114 ∧ zeroOk y114.zero = true := ⟨by kernel_rfl, by kernel_rfl⟩
def y118 : TyI := ⟨1, false, [.nilFunc], 0, 0, 0, [], 8, true, .i64⟩
theorem y118ok : mkTy Tryz.prog 118 = some y118 ∧ zeroOk y118.zero = true := ⟨by kernel_rfl, by kernel_rfl⟩
def y120 : TyI := ⟨1, false, [.nilFunc], 0, 0, 0, [], 8, true, .i64⟩
theorem y120ok : mkTy Tryz.prog 120 = some y120 ∧ zeroOk y120.zero = true := ⟨by kernel_rfl, by kernel_rfl⟩
def y121 : TyI := ⟨1, false, [(.map none)], 4, 9, 9, [], 8, true, .i64⟩
theorem y121ok : mkTy Tryz.prog 121 = some y121 ∧ zeroOk y121.zero = true := ⟨by kernel_rfl, by kernel_rfl⟩
def tys : Types := (.nd (.nd (.nd (.nd (.nd .lf none (.nd (.nd .lf (some y79) .lf) none (.nd .lf (some y111) .lf))) none (.nd (.nd .lf (some y39) .lf) none (.nd (.nd .lf (some y87) .lf) (some y55) .lf))) (some y3) (.nd (.nd .lf none (.nd (.nd .lf (some y83) .lf) none .lf)) none (.nd .lf (some y27) .lf))) none (.nd (.nd (.nd (.nd (.nd .lf (some y65) .lf) none .lf) none (.nd (.nd .lf (some y81) .lf) none .lf)) (some y9) (.nd (.nd .lf (some y41) .lf) none (.nd (.nd .lf (some y89) .lf) none (.nd .lf (some y121) .lf)))) (some y5) (.nd (.nd (.nd .lf (some y37) .lf) none (.nd (.nd .lf (some y85) .lf) none .lf)) none (.nd .lf none (.nd .lf (some y61) .lf))))) none (.nd (.nd (.nd (.nd (.nd (.nd .lf (some y64) .lf) (some y32) .lf) none (.nd (.nd .lf (some y80) .lf) none .lf)) none (.nd (.nd .lf (some y40) .lf) (some y24) (.nd .lf (some y56) (.nd .lf (some y120) .lf)))) (some y4) (.nd (.nd .lf none (.nd (.nd .lf (some y84) .lf) (some y52) .lf)) none (.nd (.nd .lf (some y44) .lf) none (.nd .lf (some y60) .lf)))) (some y2) (.nd (.nd (.nd .lf none (.nd .lf (some y50) (.nd .lf (some y114) .lf))) none (.nd .lf (some y26) (.nd .lf (some y58) .lf))) none (.nd (.nd .lf none (.nd .lf none (.nd .lf (some y118) .lf))) none (.nd (.nd .lf (some y46) .lf) (some y30) .lf)))))
theorem tysAll : Tr.All (fun t i => mkTy Tryz.prog t = some i ∧ zeroOk i.zero = true) id tys := ⟨trivial, ⟨trivial, ⟨y3ok, ⟨trivial, ⟨trivial, trivial, ⟨trivial, ⟨y79ok, trivial, trivial⟩, ⟨y111ok, trivial, trivial⟩⟩⟩, ⟨trivial, ⟨y39ok, trivial, trivial⟩, ⟨y55ok, ⟨y87ok, trivial, trivial⟩, trivial⟩⟩⟩, ⟨trivial, ⟨trivial, trivial, ⟨trivial, ⟨y83ok, trivial, trivial⟩, trivial⟩⟩, ⟨y27ok, trivial, trivial⟩⟩⟩, ⟨y5ok, ⟨y9ok, ⟨trivial, ⟨trivial, ⟨y65ok, trivial, trivial⟩, trivial⟩, ⟨trivial, ⟨y81ok, trivial, trivial⟩, trivial⟩⟩, ⟨trivial, ⟨y41ok, trivial, trivial⟩, ⟨trivial, ⟨y89ok, trivial, trivial⟩, ⟨y121ok, trivial, trivial⟩⟩⟩⟩, ⟨trivial, ⟨trivial, ⟨y37ok, trivial, trivial⟩, ⟨trivial, ⟨y85ok, trivial, trivial⟩, trivial⟩⟩, ⟨trivial, trivial, ⟨y61ok, trivial, trivial⟩⟩⟩⟩⟩, ⟨y2ok, ⟨y4ok, ⟨trivial, ⟨trivial, ⟨y32ok, ⟨y64ok, trivial, trivial⟩, trivial⟩, ⟨trivial, ⟨y80ok, trivial, trivial⟩, trivial⟩⟩, ⟨y24ok, ⟨y40ok, trivial, trivial⟩, ⟨y56ok, trivial, ⟨y120ok, trivial, trivial⟩⟩⟩⟩, ⟨trivial, ⟨trivial, trivial, ⟨y52ok, ⟨y84ok, trivial, trivial⟩, trivial⟩⟩, ⟨trivial, ⟨y44ok, trivial, trivial⟩, ⟨y60ok, trivial, trivial⟩⟩⟩⟩, ⟨trivial, ⟨trivial, ⟨trivial, trivial, ⟨y50ok, trivial, ⟨y114ok, trivial, trivial⟩⟩⟩, ⟨y26ok, trivial, ⟨y58ok, trivial, trivial⟩⟩⟩, ⟨trivial, ⟨trivial, trivial, ⟨trivial, trivial, ⟨y118ok, trivial, trivial⟩⟩⟩, ⟨y30ok, ⟨y46ok, trivial, trivial⟩, trivial⟩⟩⟩⟩⟩
theorem tysF : tys.allB (fun i => !Nat.beq i.kind 3 || i.fields.all fun x => (tys.get x.2).isSome) = true := by kernel_rfl
theorem tOk [Env] : TOk Tryz.prog tys := TOk.of tysAll tysF
end Go.Ev
