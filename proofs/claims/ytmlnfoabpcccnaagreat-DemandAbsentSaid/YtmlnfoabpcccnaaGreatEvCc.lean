/- Each production is read as it should be: one run each. -/
import Derived.Test.YtmlnfoabpcccnaaGreatEvCb
import Derived.Test.YtmlnfoabpcccnaaGreatEvBi
set_option linter.all false
namespace Go.Ev.A
open Go.Proofs
noncomputable def okP1 (it : List It) (q : PV) (t f : Bool) : Bool := goesF ⟨tysT, askP it⟩ fnsP (orcP it f) 10000 e26 73 (rd 0 t) [.unk 4] q (rd it.length false)
noncomputable def okP : List (List It) → List PV → Bool
  | it :: r, q :: s => okP1 it q false false && (okP1 it q true false && (okP1 it q true true && okP r s))
  | [], [] => true
  | _, _ => false
theorem pOk : okP prods outs = true := by kernel_rfl
end Go.Ev.A
