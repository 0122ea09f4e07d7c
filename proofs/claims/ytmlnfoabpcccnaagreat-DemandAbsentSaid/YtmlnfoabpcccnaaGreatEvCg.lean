/- Reading one token, and skipping a space: the runs, by the kernel. -/
import Derived.Test.YtmlnfoabpcccnaaGreatEvCf
set_option linter.all false
namespace Go.Ev.A
open Go.Proofs
noncomputable def fnsW : Fns := (.nd (.nd (.nd .lf none (.nd (.nd (.nd (.nd (.nd .lf (some e131) .lf) none .lf) none .lf) none .lf) none (.nd .lf none (.nd (.nd .lf (some e91) .lf) none .lf)))) none (.nd (.nd .lf none (.nd .lf none (.nd (.nd .lf (some e89) .lf) none .lf))) none (.nd (.nd (.nd (.nd (.nd .lf (some e133) .lf) none .lf) none .lf) none .lf) none .lf))) none (.nd (.nd .lf none (.nd (.nd (.nd (.nd (.nd .lf (some e132) .lf) none .lf) none .lf) none .lf) none (.nd .lf none (.nd (.nd .lf (some e92) .lf) none .lf)))) none (.nd (.nd .lf none (.nd .lf none (.nd (.nd .lf (some e90) .lf) none .lf))) none (.nd (.nd (.nd (.nd (.nd .lf (some e134) .lf) none .lf) none .lf) none (.nd (.nd .lf (some e86) .lf) none .lf)) none .lf))))
theorem fnsWOk [Env] : FTOk Tryz.prog fnsW := .of ⟨trivial, ⟨trivial, ⟨trivial, trivial, ⟨trivial, ⟨trivial, ⟨trivial, ⟨trivial, ⟨e131ok, trivial, trivial⟩, trivial⟩, trivial⟩, trivial⟩, ⟨trivial, trivial, ⟨trivial, ⟨e91ok, trivial, trivial⟩, trivial⟩⟩⟩⟩, ⟨trivial, ⟨trivial, trivial, ⟨trivial, trivial, ⟨trivial, ⟨e89ok, trivial, trivial⟩, trivial⟩⟩⟩, ⟨trivial, ⟨trivial, ⟨trivial, ⟨trivial, ⟨e133ok, trivial, trivial⟩, trivial⟩, trivial⟩, trivial⟩, trivial⟩⟩⟩, ⟨trivial, ⟨trivial, trivial, ⟨trivial, ⟨trivial, ⟨trivial, ⟨trivial, ⟨e132ok, trivial, trivial⟩, trivial⟩, trivial⟩, trivial⟩, ⟨trivial, trivial, ⟨trivial, ⟨e92ok, trivial, trivial⟩, trivial⟩⟩⟩⟩, ⟨trivial, ⟨trivial, trivial, ⟨trivial, trivial, ⟨trivial, ⟨e90ok, trivial, trivial⟩, trivial⟩⟩⟩, ⟨trivial, ⟨trivial, ⟨trivial, ⟨trivial, ⟨e134ok, trivial, trivial⟩, trivial⟩, trivial⟩, ⟨trivial, ⟨e86ok, trivial, trivial⟩, trivial⟩⟩, trivial⟩⟩⟩⟩
noncomputable def okOne (e : Bool) (x : Lx) : Bool := (e && Nat.beq x.cls 2) || goesD ⟨tysT, askW x e⟩ fnsW (orcW x) 10000 e50 [.unk 0, .unk 1000] (resW x)
theorem oneOk0 : lexs.all (okOne false) = true := by kernel_rfl
theorem oneOk1 : lexs.all (okOne true) = true := by kernel_rfl
noncomputable def okSkip (sp e : Bool) : Bool := goesD ⟨tysT, askK sp e⟩ .lf (fun _ _ => none) 10000 e49 [.unk 0, .unk 1000] (resK sp)
theorem skipOk : (okSkip false false && (okSkip false true && (okSkip true false && okSkip true true))) = true := by kernel_rfl
noncomputable def okByte (c : Nat) : Bool := goesD ⟨tysT, noAsk⟩ .lf (fun _ _ => none) 100 e84 [U c] (Bo (lowB c)) && (goesD ⟨tysT, noAsk⟩ .lf (fun _ _ => none) 100 e85 [U c] (Bo (uppB c)) && goesD ⟨tysT, noAsk⟩ .lf (fun _ _ => none) 100 e87 [U c] (Bo (digB c)))
theorem byteOk : allN 256 okByte = true := by kernel_rfl
/-- byteAt: i: the place lies in the text -/
def askB (i : Bool) : AskOp → List PV → Option PV
  | .len 9, [.unk 0] => some (.unk 2)
  | .bin .lss _, [.unk 1000, .unk 2] => some (Bo i)
  | .index 9, [.unk 0, .unk 1000] => match i with
    | true => some (.unk 3)
    | false => none
  | _, _ => none
noncomputable def okAt (i : Bool) : Bool := goesD ⟨tysT, askB i⟩ .lf (fun _ _ => none) 1000 e88 [.unk 0, .unk 1000] (match i with | true => .unk 3 | false => U 0)
theorem atOk : (okAt false && okAt true) = true := by kernel_rfl
end Go.Ev.A
