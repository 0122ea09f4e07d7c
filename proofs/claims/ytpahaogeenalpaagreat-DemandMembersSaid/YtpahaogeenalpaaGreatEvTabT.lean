/- The types of the program, as the evaluator asks for them. -/
import Derived.Test.YtpahaogeenalpaaGreatEvFast
import Derived.KernelRfl
import Derived.Test.YtpahaogeenalpaaGreatProg
set_option linter.all false
namespace Go.Ev
open Go.Proofs
abbrev i (n : Nat) : PV := .v (.int .i64 (.ofNat n))
abbrev j (n : Nat) : PV := .v (.int .i64 (.negSucc n))
abbrev nl : PV := .v (.slice none 0 0)
abbrev st (l : List Nat) : Value := .string ⟨⟨l.map UInt8.ofNat⟩⟩
abbrev sb (l : List Nat) : PV := .v (st l)
def y2 : TyI := ⟨1, false, [(.int .i64 (.ofNat 0))], 0, 0, 6, [], 8, true, .i64⟩
theorem y2ok : mkTy Tryz.prog 2 = some y2 ∧ zeroOk y2.zero = true := ⟨by kernel_rfl, by kernel_rfl⟩
def y3 : TyI := ⟨1, false, [(.int .i64 (.ofNat 0))], 0, 0, 6, [], 8, true, .i64⟩
theorem y3ok : mkTy Tryz.prog 3 = some y3 ∧ zeroOk y3.zero = true := ⟨by kernel_rfl, by kernel_rfl⟩
def y4 : TyI := ⟨1, false, [(.bool false)], 0, 0, 7, [], 1, true, .i64⟩
theorem y4ok : mkTy Tryz.prog 4 = some y4 ∧ zeroOk y4.zero = true := ⟨by kernel_rfl, by kernel_rfl⟩
def y5 : TyI := ⟨1, false, [(.int .u8 (.ofNat 0))], 0, 0, 6, [], 1, true, .u8⟩
theorem y5ok : mkTy Tryz.prog 5 = some y5 ∧ zeroOk y5.zero = true := ⟨by kernel_rfl, by kernel_rfl⟩
def y9 : TyI := ⟨1, false, [(.string ⟨#[]⟩)], 0, 0, 4, [], 16, true, .i64⟩
theorem y9ok : mkTy Tryz.prog 9 = some y9 ∧ zeroOk y9.zero = true := ⟨by kernel_rfl, by kernel_rfl⟩
def y20 : TyI := ⟨1, false, [.nilIface], 0, 0, 5, [], 16, true, .i64⟩
theorem y20ok : mkTy Tryz.prog 20 = some y20 ∧ zeroOk y20.zero = true := ⟨by kernel_rfl, by kernel_rfl⟩
def y22 : TyI := ⟨1, false, [(.slice none 0 0)], 3, 0, 1, [], 24, true, .i64⟩
theorem y22ok : mkTy Tryz.prog 22 = some y22 ∧ zeroOk y22.zero = true := ⟨by kernel_rfl, by kernel_rfl⟩
def y23 : TyI := ⟨1, false, [(.pointer none)], 0, 0, 8, [], 8, true, .i64⟩
theorem y23ok : mkTy Tryz.prog 23 = some y23 ∧ zeroOk y23.zero = true := ⟨by kernel_rfl, by kernel_rfl⟩
def y25 : TyI := ⟨2, true, [(.slice none 0 0), (.int .i64 (.ofNat 0))], 0, 0, 3, [(0,22),(1,3)], 32, true, .i64⟩
theorem y25ok : mkTy Tryz.prog 25 = some y25 ∧ zeroOk y25.zero = true := ⟨by kernel_rfl, by kernel_rfl⟩
def y26 : TyI := ⟨1, false, [(.slice none 0 0)], 31, 0, 1, [], 24, true, .i64⟩
theorem y26ok : mkTy Tryz.prog 26 = some y26 ∧ zeroOk y26.zero = true := ⟨by kernel_rfl, by kernel_rfl⟩
def y27 : TyI := ⟨1, false, [(.slice none 0 0)], 68, 0, 1, [], 24, true, .i64⟩
theorem y27ok : mkTy Tryz.prog 27 = some y27 ∧ zeroOk y27.zero = true := ⟨by kernel_rfl, by kernel_rfl⟩
def y28 : TyI := ⟨1, false, [(.slice none 0 0)], 35, 0, 1, [], 24, true, .i64⟩
theorem y28ok : mkTy Tryz.prog 28 = some y28 ∧ zeroOk y28.zero = true := ⟨by kernel_rfl, by kernel_rfl⟩
def y29 : TyI := ⟨1, false, [(.slice none 0 0)], 9, 0, 1, [], 24, true, .i64⟩
theorem y29ok : mkTy Tryz.prog 29 = some y29 ∧ zeroOk y29.zero = true := ⟨by kernel_rfl, by kernel_rfl⟩
def y31 : TyI := ⟨7, true, [(.int .i64 (.ofNat 0)), (.int .i64 (.ofNat 0)), (.string ⟨#[]⟩), (.slice none 0 0), (.slice none 0 0), (.slice none 0 0), (.slice none 0 0)], 0, 0, 3, [(0,3),(1,2),(2,9),(3,26),(4,27),(5,28),(6,29)], 128, true, .i64⟩
theorem y31ok : mkTy Tryz.prog 31 = some y31 ∧ zeroOk y31.zero = true := ⟨by kernel_rfl, by kernel_rfl⟩
def y33 : TyI := ⟨1, false, [(.int .u64 (.ofNat 0))], 0, 0, 6, [], 8, true, .u64⟩
theorem y33ok : mkTy Tryz.prog 33 = some y33 ∧ zeroOk y33.zero = true := ⟨by kernel_rfl, by kernel_rfl⟩
def y35 : TyI := ⟨9, true, [(.slice none 0 0), (.bool false), (.int .i64 (.ofNat 0)), (.int .i64 (.ofNat 0)), (.string ⟨#[]⟩), (.slice none 0 0), (.slice none 0 0), (.slice none 0 0), (.slice none 0 0)], 0, 0, 3, [(0,26),(1,4),(2,31)], 160, true, .i64⟩
theorem y35ok : mkTy Tryz.prog 35 = some y35 ∧ zeroOk y35.zero = true := ⟨by kernel_rfl, by kernel_rfl⟩
def y37 : TyI := ⟨1, false, [(.slice none 0 0)], 50, 0, 1, [], 24, true, .i64⟩
theorem y37ok : mkTy Tryz.prog 37 = some y37 ∧ zeroOk y37.zero = true := ⟨by kernel_rfl, by kernel_rfl⟩
def y39 : TyI := ⟨2, true, [(.slice none 0 0), (.int .i64 (.ofNat 0))], 0, 0, 3, [(0,37),(1,3)], 32, true, .i64⟩
theorem y39ok : mkTy Tryz.prog 39 = some y39 ∧ zeroOk y39.zero = true := ⟨by kernel_rfl, by kernel_rfl⟩
def y40 : TyI := ⟨1, false, [.nilFunc], 0, 0, 0, [], 8, true, .i64⟩
theorem y40ok : mkTy Tryz.prog 40 = some y40 ∧ zeroOk y40.zero = true := ⟨by kernel_rfl, by kernel_rfl⟩
def y47 : TyI := ⟨1, false, [(.slice none 0 0)], 97, 0, 1, [], 24, true, .i64⟩
theorem y47ok : mkTy Tryz.prog 47 = some y47 ∧ zeroOk y47.zero = true := ⟨by kernel_rfl, by kernel_rfl⟩
def y48 : TyI := ⟨2, true, [(.int .i64 (.ofNat 0)), (.int .i64 (.ofNat 0))], 3, 2, 2, [], 16, true, .i64⟩
theorem y48ok : mkTy Tryz.prog 48 = some y48 ∧ zeroOk y48.zero = true := ⟨by kernel_rfl, by kernel_rfl⟩
def y50 : TyI := ⟨8, true, [(.int .i64 (.ofNat 0)), (.int .i64 (.ofNat 0)), (.int .i64 (.ofNat 0)), (.string ⟨#[]⟩), (.slice none 0 0), (.slice none 0 0), (.int .i64 (.ofNat 0)), (.int .i64 (.ofNat 0))], 0, 0, 3, [(0,3),(1,2),(2,2),(3,9),(4,22),(5,47),(6,48)], 104, true, .i64⟩
theorem y50ok : mkTy Tryz.prog 50 = some y50 ∧ zeroOk y50.zero = true := ⟨by kernel_rfl, by kernel_rfl⟩
def y53 : TyI := ⟨1, false, [(.slice none 0 0)], 39, 0, 1, [], 24, true, .i64⟩
theorem y53ok : mkTy Tryz.prog 53 = some y53 ∧ zeroOk y53.zero = true := ⟨by kernel_rfl, by kernel_rfl⟩
def y57 : TyI := ⟨1, false, [(.slice none 0 0)], 60, 0, 1, [], 24, true, .i64⟩
theorem y57ok : mkTy Tryz.prog 57 = some y57 ∧ zeroOk y57.zero = true := ⟨by kernel_rfl, by kernel_rfl⟩
def y58 : TyI := ⟨1, false, [(.slice none 0 0)], 144, 0, 1, [], 24, true, .i64⟩
theorem y58ok : mkTy Tryz.prog 58 = some y58 ∧ zeroOk y58.zero = true := ⟨by kernel_rfl, by kernel_rfl⟩
def y60 : TyI := ⟨10, true, [(.int .i64 (.ofNat 0)), (.int .i64 (.ofNat 0)), (.string ⟨#[]⟩), (.string ⟨#[]⟩), (.slice none 0 0), (.slice none 0 0), (.slice none 0 0), (.slice none 0 0), (.int .i64 (.ofNat 0)), (.int .i64 (.ofNat 0))], 0, 0, 3, [(0,3),(1,2),(2,9),(3,9),(4,57),(5,27),(6,58),(7,39),(9,3)], 160, true, .i64⟩
theorem y60ok : mkTy Tryz.prog 60 = some y60 ∧ zeroOk y60.zero = true := ⟨by kernel_rfl, by kernel_rfl⟩
def y61 : TyI := ⟨1, false, [(.int .i64 (.ofNat 0))], 0, 0, 6, [], 8, true, .i64⟩
theorem y61ok : mkTy Tryz.prog 61 = some y61 ∧ zeroOk y61.zero = true := ⟨by kernel_rfl, by kernel_rfl⟩
def y68 : TyI := ⟨2, true, [(.int .i64 (.ofNat 0)), (.string ⟨#[]⟩)], 0, 0, 3, [(0,3),(1,9)], 24, true, .i64⟩
theorem y68ok : mkTy Tryz.prog 68 = some y68 ∧ zeroOk y68.zero = true := ⟨by kernel_rfl, by kernel_rfl⟩
def y87 : TyI := ⟨1, false, [(.slice none 0 0)], 120, 0, 1, [], 24, true, .i64⟩
theorem y87ok : mkTy Tryz.prog 87 = some y87 ∧ zeroOk y87.zero = true := ⟨by kernel_rfl, by kernel_rfl⟩
def y90 : TyI := ⟨1, false, [(.pointer none)], 0, 0, 8, [], 8, true, .i64⟩
theorem y90ok : mkTy Tryz.prog 90 = some y90 ∧ zeroOk y90.zero = true := ⟨by kernel_rfl, by kernel_rfl⟩
def y92 : TyI := ⟨6, true, [(.slice none 0 0), (.int .i64 (.ofNat 0)), (.int .i64 (.ofNat 0)), (.int .i64 (.ofNat 0)), (.int .i64 (.ofNat 0)), (.bool false)], 0, 0, 3, [(0,87),(1,3),(2,3),(3,61),(4,3),(5,4)], 64, true, .i64⟩
theorem y92ok : mkTy Tryz.prog 92 = some y92 ∧ zeroOk y92.zero = true := ⟨by kernel_rfl, by kernel_rfl⟩
def y97 : TyI := ⟨4, true, [(.int .i64 (.ofNat 0)), (.string ⟨#[]⟩), (.int .i64 (.ofNat 0)), (.bool false)], 0, 0, 3, [(0,68),(2,3),(3,4)], 40, true, .i64⟩
theorem y97ok : mkTy Tryz.prog 97 = some y97 ∧ zeroOk y97.zero = true := ⟨by kernel_rfl, by kernel_rfl⟩
def y106 : TyI := ⟨1, false, [(.slice none 0 0)], 4, 0, 1, [], 24, true, .i64⟩
theorem y106ok : mkTy Tryz.prog 106 = some y106 ∧ zeroOk y106.zero = true := ⟨by kernel_rfl, by kernel_rfl⟩
def y112 : TyI := ⟨1, false, [(.int .u32 (.ofNat 0))], 0, 0, 6, [], 4, true, .u32⟩
theorem y112ok : mkTy Tryz.prog 112 = some y112 ∧ zeroOk y112.zero = true := ⟨by kernel_rfl, by kernel_rfl⟩
def y115 : TyI := ⟨1, false, [(.int .u64 (.ofNat 0))], 0, 0, 6, [], 8, true, .u64⟩
theorem y115ok : mkTy Tryz.prog 115 = some y115 ∧ zeroOk y115.zero = true := ⟨by kernel_rfl, by kernel_rfl⟩
def y120 : TyI := ⟨4, true, [(.int .i64 (.ofNat 0)), (.string ⟨#[]⟩), (.int .i64 (.ofNat 0)), (.int .i64 (.ofNat 0))], 0, 0, 3, [(0,3),(1,9),(2,2),(3,3)], 40, true, .i64⟩
theorem y120ok : mkTy Tryz.prog 120 = some y120 ∧ zeroOk y120.zero = true := ⟨by kernel_rfl, by kernel_rfl⟩
def y131 : TyI := ⟨2, true, [(.string ⟨#[]⟩), (.int .i64 (.ofNat 0))], 0, 0, 3, [(0,9),(1,3)], 24, true, .i64⟩
theorem y131ok : mkTy Tryz.prog 131 = some y131 ∧ zeroOk y131.zero = true := ⟨by kernel_rfl, by kernel_rfl⟩
def y139 : TyI := ⟨1, false, [(.slice none 0 0)], 146, 0, 1, [], 24, true, .i64⟩
theorem y139ok : mkTy Tryz.prog 139 = some y139 ∧ zeroOk y139.zero = true := ⟨by kernel_rfl, by kernel_rfl⟩
def y140 : TyI := ⟨1, false, [(.slice none 0 0)], 142, 0, 1, [], 24, true, .i64⟩
theorem y140ok : mkTy Tryz.prog 140 = some y140 ∧ zeroOk y140.zero = true := ⟨by kernel_rfl, by kernel_rfl⟩
def y142 : TyI := ⟨7, true, [(.int .i64 (.ofNat 0)), (.string ⟨#[]⟩), (.int .i64 (.ofNat 0)), (.string ⟨#[]⟩), (.int .i64 (.ofNat 0)), (.string ⟨#[]⟩), (.slice none 0 0)], 0, 0, 3, [(0,3),(1,9),(2,2),(3,9),(4,68),(6,140)], 96, true, .i64⟩
theorem y142ok : mkTy Tryz.prog 142 = some y142 ∧ zeroOk y142.zero = true := ⟨by kernel_rfl, by kernel_rfl⟩
def y144 : TyI := ⟨19, true, [(.slice none 0 0), (.int .i64 (.ofNat 0)), (.string ⟨#[]⟩), (.int .i64 (.ofNat 0)), (.string ⟨#[]⟩), (.int .i64 (.ofNat 0)), (.string ⟨#[]⟩), (.slice none 0 0), (.int .i64 (.ofNat 0)), (.int .i64 (.ofNat 0)), (.string ⟨#[]⟩), (.string ⟨#[]⟩), (.slice none 0 0), (.slice none 0 0), (.slice none 0 0), (.slice none 0 0), (.int .i64 (.ofNat 0)), (.int .i64 (.ofNat 0)), (.int .i64 (.ofNat 0))], 0, 0, 3, [(0,139),(1,142),(8,60),(18,3)], 288, true, .i64⟩
theorem y144ok : mkTy Tryz.prog 144 = some y144 ∧ zeroOk y144.zero = true := ⟨by kernel_rfl, by kernel_rfl⟩
def y146 : TyI := ⟨5, true, [(.int .i64 (.ofNat 0)), (.int .i64 (.ofNat 0)), (.string ⟨#[]⟩), (.slice none 0 0), (.slice none 0 0)], 0, 0, 3, [(0,3),(1,2),(2,9),(3,139),(4,27)], 80, true, .i64⟩
theorem y146ok : mkTy Tryz.prog 146 = some y146 ∧ zeroOk y146.zero = true := ⟨by kernel_rfl, by kernel_rfl⟩
def y149 : TyI := ⟨1, false, [.nilFunc], 0, 0, 0, [], 8, true, .i64⟩
theorem y149ok : mkTy Tryz.prog 149 = some y149 ∧ zeroOk y149.zero = true := ⟨by kernel_rfl, by kernel_rfl⟩
def y151 : TyI := ⟨1, false, [(.slice none 0 0)], 2, 0, 1, [], 24, true, .i64⟩
theorem y151ok : mkTy Tryz.prog 151 = some y151 ∧ zeroOk y151.zero = true := ⟨by kernel_rfl, by kernel_rfl⟩
def y159 : TyI := ⟨1, false, [.nilFunc], 0, 0, 0, [], 8, true, .i64⟩
theorem y159ok : mkTy Tryz.prog 159 = some y159 ∧ zeroOk y159.zero = true := ⟨by kernel_rfl, by kernel_rfl⟩
def y175 : TyI := ⟨3, true, [(.slice none 0 0), (.slice none 0 0), (.bool false)], 0, 0, 3, [(0,22),(1,22),(2,4)], 56, true, .i64⟩
theorem y175ok : mkTy Tryz.prog 175 = some y175 ∧ zeroOk y175.zero = true := ⟨by kernel_rfl, by kernel_rfl⟩
def y194 : TyI := ⟨1, false, [(.pointer none)], 0, 0, 8, [], 8, true, .i64⟩
theorem y194ok : mkTy Tryz.prog 194 = some y194 ∧ zeroOk y194.zero = true := ⟨by kernel_rfl, by kernel_rfl⟩
def y195 : TyI := ⟨1, false, [(.slice none 0 0)], 175, 0, 1, [], 24, true, .i64⟩
theorem y195ok : mkTy Tryz.prog 195 = some y195 ∧ zeroOk y195.zero = true := ⟨by kernel_rfl, by kernel_rfl⟩
def y196 : TyI := ⟨1, false, [(.slice none 0 0)], 213, 0, 1, [], 24, true, .i64⟩
theorem y196ok : mkTy Tryz.prog 196 = some y196 ∧ zeroOk y196.zero = true := ⟨by kernel_rfl, by kernel_rfl⟩
def y198 : TyI := ⟨5, true, [(.slice none 0 0), (.int .i64 (.ofNat 0)), (.slice none 0 0), (.slice none 0 0), (.slice none 0 0)], 0, 0, 3, [(0,39),(2,195),(3,196),(4,22)], 104, true, .i64⟩
theorem y198ok : mkTy Tryz.prog 198 = some y198 ∧ zeroOk y198.zero = true := ⟨by kernel_rfl, by kernel_rfl⟩
def y213 : TyI := ⟨1, false, [(.slice none 0 0)], 217, 0, 1, [], 24, true, .i64⟩
theorem y213ok : mkTy Tryz.prog 213 = some y213 ∧ zeroOk y213.zero = true := ⟨by kernel_rfl, by kernel_rfl⟩
def y215 : TyI := ⟨1, false, [(.slice none 0 0)], 218, 0, 1, [], 24, true, .i64⟩
theorem y215ok : mkTy Tryz.prog 215 = some y215 ∧ zeroOk y215.zero = true := ⟨by kernel_rfl, by kernel_rfl⟩
def y217 : TyI := ⟨3, true, [(.int .i64 (.ofNat 0)), (.int .i64 (.ofNat 0)), (.slice none 0 0)], 0, 0, 3, [(0,3),(1,3),(2,215)], 40, true, .i64⟩
theorem y217ok : mkTy Tryz.prog 217 = some y217 ∧ zeroOk y217.zero = true := ⟨by kernel_rfl, by kernel_rfl⟩
def y218 : TyI := ⟨1, false, [(.slice none 0 0)], 195, 0, 1, [], 24, true, .i64⟩
theorem y218ok : mkTy Tryz.prog 218 = some y218 ∧ zeroOk y218.zero = true := ⟨by kernel_rfl, by kernel_rfl⟩
def y223 : TyI := ⟨1, false, [.nilFunc], 0, 0, 0, [], 8, true, .i64⟩
theorem y223ok : mkTy Tryz.prog 223 = some y223 ∧ zeroOk y223.zero = true := ⟨by kernel_rfl, by kernel_rfl⟩
def y233 : TyI := ⟨1, false, [(.slice none 0 0)], 236, 0, 1, [], 24, true, .i64⟩
theorem y233ok : mkTy Tryz.prog 233 = some y233 ∧ zeroOk y233.zero = true := ⟨by kernel_rfl, by kernel_rfl⟩
def y236 : TyI := ⟨2, true, [(.slice none 0 0), (.slice none 0 0)], 0, 0, 3, [(0,22),(1,22)], 48, true, .i64⟩
theorem y236ok : mkTy Tryz.prog 236 = some y236 ∧ zeroOk y236.zero = true := ⟨by kernel_rfl, by kernel_rfl⟩
def y240 : TyI := ⟨2, true, [(.int .i64 (.ofNat 0)), (.int .i64 (.ofNat 0))], 0, 0, 3, [(0,3),(1,3)], 16, true, .i64⟩
theorem y240ok : mkTy Tryz.prog 240 = some y240 ∧ zeroOk y240.zero = true := ⟨by kernel_rfl, by kernel_rfl⟩
def y254 : TyI := ⟨1, false, [(.slice none 0 0)], 269, 0, 1, [], 24, true, .i64⟩
theorem y254ok : mkTy Tryz.prog 254 = some y254 ∧ zeroOk y254.zero = true := ⟨by kernel_rfl, by kernel_rfl⟩
def y269 : TyI := ⟨2, true, [(.int .i64 (.ofNat 0)), (.int .i64 (.ofNat 0))], 0, 0, 3, [(0,2),(1,2)], 16, true, .i64⟩
theorem y269ok : mkTy Tryz.prog 269 = some y269 ∧ zeroOk y269.zero = true := ⟨by kernel_rfl, by kernel_rfl⟩
def tys : Types := (.nd (.nd (.nd (.nd (.nd (.nd .lf (some y31) (.nd (.nd .lf (some y159) .lf) none (.nd .lf (some y223) .lf))) none (.nd .lf (some y47) (.nd (.nd .lf (some y175) .lf) none .lf))) none (.nd (.nd .lf (some y39) .lf) (some y23) (.nd (.nd (.nd .lf (some y151) .lf) (some y87) (.nd .lf (some y215) .lf)) none .lf))) (some y3) (.nd (.nd (.nd (.nd (.nd .lf (some y131) .lf) none (.nd .lf (some y195) .lf)) (some y35) .lf) none (.nd .lf none (.nd .lf (some y115) .lf))) none (.nd (.nd (.nd (.nd .lf (some y139) .lf) none .lf) none .lf) (some y27) .lf))) none (.nd (.nd (.nd (.nd .lf (some y33) (.nd .lf (some y97) .lf)) none .lf) (some y9) (.nd (.nd .lf none (.nd .lf none (.nd .lf (some y233) .lf))) (some y25) (.nd (.nd .lf none (.nd .lf (some y217) .lf)) (some y57) .lf))) (some y5) (.nd (.nd (.nd .lf (some y37) .lf) none (.nd (.nd (.nd .lf (some y149) .lf) none (.nd .lf (some y213) .lf)) (some y53) .lf)) none (.nd (.nd (.nd (.nd (.nd .lf (some y269) .lf) none .lf) none .lf) none .lf) (some y29) (.nd .lf (some y61) .lf))))) none (.nd (.nd (.nd (.nd .lf none (.nd (.nd (.nd .lf (some y144) .lf) none .lf) (some y48) (.nd .lf (some y112) (.nd .lf (some y240) .lf)))) none (.nd (.nd .lf (some y40) .lf) none (.nd .lf none (.nd .lf (some y120) .lf)))) (some y4) (.nd (.nd (.nd (.nd .lf (some y68) (.nd .lf (some y196) .lf)) none .lf) (some y20) .lf) none (.nd (.nd (.nd (.nd .lf (some y140) .lf) none .lf) none (.nd .lf none (.nd .lf (some y236) .lf))) (some y28) (.nd (.nd .lf (some y92) .lf) (some y60) .lf)))) (some y2) (.nd (.nd (.nd (.nd (.nd .lf none (.nd .lf (some y194) .lf)) none .lf) none (.nd (.nd (.nd .lf (some y146) .lf) none .lf) (some y50) .lf)) none (.nd (.nd .lf none (.nd .lf (some y106) .lf)) (some y26) (.nd (.nd .lf (some y90) (.nd .lf (some y218) .lf)) (some y58) .lf))) none (.nd (.nd (.nd (.nd .lf none (.nd .lf (some y198) .lf)) none .lf) (some y22) .lf) none (.nd (.nd (.nd (.nd .lf (some y142) .lf) none .lf) none .lf) none (.nd .lf none (.nd .lf none (.nd .lf (some y254) .lf))))))))
theorem tysAll : Tr.All (fun t i => mkTy Tryz.prog t = some i ∧ zeroOk i.zero = true) id tys := ⟨trivial, ⟨trivial, ⟨y3ok, ⟨trivial, ⟨trivial, ⟨y31ok, trivial, ⟨trivial, ⟨y159ok, trivial, trivial⟩, ⟨y223ok, trivial, trivial⟩⟩⟩, ⟨y47ok, trivial, ⟨trivial, ⟨y175ok, trivial, trivial⟩, trivial⟩⟩⟩, ⟨y23ok, ⟨y39ok, trivial, trivial⟩, ⟨trivial, ⟨y87ok, ⟨y151ok, trivial, trivial⟩, ⟨y215ok, trivial, trivial⟩⟩, trivial⟩⟩⟩, ⟨trivial, ⟨trivial, ⟨y35ok, ⟨trivial, ⟨y131ok, trivial, trivial⟩, ⟨y195ok, trivial, trivial⟩⟩, trivial⟩, ⟨trivial, trivial, ⟨y115ok, trivial, trivial⟩⟩⟩, ⟨y27ok, ⟨trivial, ⟨trivial, ⟨y139ok, trivial, trivial⟩, trivial⟩, trivial⟩, trivial⟩⟩⟩, ⟨y5ok, ⟨y9ok, ⟨trivial, ⟨y33ok, trivial, ⟨y97ok, trivial, trivial⟩⟩, trivial⟩, ⟨y25ok, ⟨trivial, trivial, ⟨trivial, trivial, ⟨y233ok, trivial, trivial⟩⟩⟩, ⟨y57ok, ⟨trivial, trivial, ⟨y217ok, trivial, trivial⟩⟩, trivial⟩⟩⟩, ⟨trivial, ⟨trivial, ⟨y37ok, trivial, trivial⟩, ⟨y53ok, ⟨trivial, ⟨y149ok, trivial, trivial⟩, ⟨y213ok, trivial, trivial⟩⟩, trivial⟩⟩, ⟨y29ok, ⟨trivial, ⟨trivial, ⟨trivial, ⟨y269ok, trivial, trivial⟩, trivial⟩, trivial⟩, trivial⟩, ⟨y61ok, trivial, trivial⟩⟩⟩⟩⟩, ⟨y2ok, ⟨y4ok, ⟨trivial, ⟨trivial, trivial, ⟨y48ok, ⟨trivial, ⟨y144ok, trivial, trivial⟩, trivial⟩, ⟨y112ok, trivial, ⟨y240ok, trivial, trivial⟩⟩⟩⟩, ⟨trivial, ⟨y40ok, trivial, trivial⟩, ⟨trivial, trivial, ⟨y120ok, trivial, trivial⟩⟩⟩⟩, ⟨trivial, ⟨y20ok, ⟨trivial, ⟨y68ok, trivial, ⟨y196ok, trivial, trivial⟩⟩, trivial⟩, trivial⟩, ⟨y28ok, ⟨trivial, ⟨trivial, ⟨y140ok, trivial, trivial⟩, trivial⟩, ⟨trivial, trivial, ⟨y236ok, trivial, trivial⟩⟩⟩, ⟨y60ok, ⟨y92ok, trivial, trivial⟩, trivial⟩⟩⟩⟩, ⟨trivial, ⟨trivial, ⟨trivial, ⟨trivial, ⟨trivial, trivial, ⟨y194ok, trivial, trivial⟩⟩, trivial⟩, ⟨y50ok, ⟨trivial, ⟨y146ok, trivial, trivial⟩, trivial⟩, trivial⟩⟩, ⟨y26ok, ⟨trivial, trivial, ⟨y106ok, trivial, trivial⟩⟩, ⟨y58ok, ⟨y90ok, trivial, ⟨y218ok, trivial, trivial⟩⟩, trivial⟩⟩⟩, ⟨trivial, ⟨y22ok, ⟨trivial, ⟨trivial, trivial, ⟨y198ok, trivial, trivial⟩⟩, trivial⟩, trivial⟩, ⟨trivial, ⟨trivial, ⟨trivial, ⟨y142ok, trivial, trivial⟩, trivial⟩, trivial⟩, ⟨trivial, trivial, ⟨trivial, trivial, ⟨y254ok, trivial, trivial⟩⟩⟩⟩⟩⟩⟩⟩
theorem tysF : tys.allB (fun i => !Nat.beq i.kind 3 || i.fields.all fun x => (tys.get x.2).isSome) = true := by kernel_rfl
theorem tOk [Env] : TOk Tryz.prog tys := TOk.of tysAll tysF
end Go.Ev
