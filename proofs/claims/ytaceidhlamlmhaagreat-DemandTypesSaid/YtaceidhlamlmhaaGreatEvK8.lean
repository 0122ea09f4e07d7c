/- Calls that are known, by running them. -/
import Derived.Test.YtaceidhlamlmhaaGreatEvVal
import Derived.Test.YtaceidhlamlmhaaGreatEvK4
set_option linter.all false
namespace Go.Ev
open Go.Proofs
theorem k555 [Env] : Known Tryz.prog 18 [(i 0)] (.agg [x137, (i 0)]) :=
  known_ofF tOk mixed fnsOk (B := [(18, [([(i 1)], (.agg [x87, (i 0)])), ([(i 2)], (.agg [x90, (i 0)])), ([(i 3)], (.agg [x94, (i 0)])), ([(i 4)], (.agg [x98, (i 0)]))])]) ⟨⟨k396, k410, k434, k461, trivial⟩, trivial⟩ e18ok (n := 100000) (by kernel_rfl)
theorem k556 [Env] : Known Tryz.prog 95 [(.agg [(.sl [[(i 15), (i 0), (i 0), (sb []), nl, nl, (i 0), (i 0)]] true), (i 0)])] (i 0) :=
  known_ofF tOk mixed fnsOk (B := []) trivial e95ok (n := 100000) (by kernel_rfl)
theorem k557 [Env] : Known Tryz.prog 95 [(.agg [x138, (i 0)])] (i 0) :=
  known_ofF tOk mixed fnsOk (B := []) trivial e95ok (n := 100000) (by kernel_rfl)
theorem k558 [Env] : Known Tryz.prog 95 [(.agg [x139, (i 0)])] (i 0) :=
  known_ofF tOk mixed fnsOk (B := []) trivial e95ok (n := 100000) (by kernel_rfl)
theorem k559 [Env] : Known Tryz.prog 95 [(.agg [x140, (i 0)])] (i 0) :=
  known_ofF tOk mixed fnsOk (B := []) trivial e95ok (n := 100000) (by kernel_rfl)
theorem k560 [Env] : Known Tryz.prog 95 [(.agg [x141, (i 0)])] (i 0) :=
  known_ofF tOk mixed fnsOk (B := []) trivial e95ok (n := 100000) (by kernel_rfl)
theorem k561 [Env] : Known Tryz.prog 95 [(.agg [x142, (i 0)])] (i 0) :=
  known_ofF tOk mixed fnsOk (B := []) trivial e95ok (n := 100000) (by kernel_rfl)
theorem k562 [Env] : Known Tryz.prog 95 [(.agg [x143, (i 0)])] (i 0) :=
  known_ofF tOk mixed fnsOk (B := []) trivial e95ok (n := 100000) (by kernel_rfl)
theorem k563 [Env] : Known Tryz.prog 95 [(.agg [x144, (i 0)])] (i 0) :=
  known_ofF tOk mixed fnsOk (B := []) trivial e95ok (n := 100000) (by kernel_rfl)
theorem k564 [Env] : Known Tryz.prog 19 [(i 0)] (.agg [x145, (i 0)]) :=
  known_ofF tOk mixed fnsOk (B := [(95, [([(.agg [x88, (i 0)])], (i 0)), ([(.agg [(.sl [[(i 15), (i 0), (i 0), (sb []), nl, nl, (i 0), (i 0)]] true), (i 0)])], (i 0)), ([(.agg [x138, (i 0)])], (i 0)), ([(.agg [x91, (i 0)])], (i 0)), ([(.agg [x139, (i 0)])], (i 0)), ([(.agg [x140, (i 0)])], (i 0)), ([(.agg [x95, (i 0)])], (i 0)), ([(.agg [x141, (i 0)])], (i 0)), ([(.agg [x142, (i 0)])], (i 0)), ([(.agg [x99, (i 0)])], (i 0)), ([(.agg [x143, (i 0)])], (i 0)), ([(.agg [x144, (i 0)])], (i 0))])]) ⟨⟨k399, k556, k557, k413, k558, k559, k437, k560, k561, k464, k562, k563, trivial⟩, trivial⟩ e19ok (n := 100000) (by kernel_rfl)
theorem k565 [Env] : Known Tryz.prog 95 [(.agg [x137, (i 0)])] (i 0) :=
  known_ofF tOk mixed fnsOk (B := []) trivial e95ok (n := 100000) (by kernel_rfl)
theorem k566 [Env] : Known Tryz.prog 95 [(.agg [x145, (i 0)])] (i 0) :=
  known_ofF tOk mixed fnsOk (B := []) trivial e95ok (n := 100000) (by kernel_rfl)
theorem k567 [Env] : Known Tryz.prog 95 [(.agg [x146, (i 0)])] (i 0) :=
  known_ofF tOk mixed fnsOk (B := []) trivial e95ok (n := 100000) (by kernel_rfl)
end Go.Ev
