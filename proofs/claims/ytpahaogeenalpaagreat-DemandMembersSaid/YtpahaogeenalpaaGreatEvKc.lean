/- Calls that are known, by running them. -/
import Derived.Test.YtpahaogeenalpaaGreatEvKv
set_option linter.all false
namespace Go.Ev
open Go.Proofs
theorem k167 [Env] : Known Tryz.prog 41 [(.agg [x14, (i 0)])] (i 0) :=
  known_ofF tOk mixed fnsAOk (B := []) trivial e41ok (n := 100000) (by kernel_rfl)
end Go.Ev
