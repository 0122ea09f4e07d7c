/- Calls that are known, by running them. -/
import Derived.Test.YtpahaogeenalpaaGreatEvKv
set_option linter.all false
namespace Go.Ev
open Go.Proofs
theorem k0 [Env] : Known Tryz.prog 41 [(.agg [(.sl [[(i 17), (i 0), (i 0), (sb []), (.sl [[(i 1)]] false), nl, (i 0), (i 0)], [(i 3), (j 9223372036854775807), (i 9223372036854775807), (sb []), nl, nl, (i 0), (i 0)]] false), (i 0)])] (i 0) :=
  known_ofF tOk mixed fnsAOk (B := []) trivial e41ok (n := 100000) (by kernel_rfl)
theorem k1 [Env] : Known Tryz.prog 41 [(.agg [(.sl [[(i 3), (j 9223372036854775807), (i 9223372036854775807), (sb []), nl, nl, (i 0), (i 0)]] true), (i 0)])] (i 0) :=
  known_ofF tOk mixed fnsAOk (B := []) trivial e41ok (n := 100000) (by kernel_rfl)
theorem k2 [Env] : Known Tryz.prog 41 [(.agg [x0, (i 0)])] (i 0) :=
  known_ofF tOk mixed fnsAOk (B := []) trivial e41ok (n := 100000) (by kernel_rfl)
theorem k3 [Env] : Known Tryz.prog 215 [(.agg [x0, (i 0)]), (.agg [(.sl [[(i 1)]] false), (.sl [[(i 2)]] false)]), (.agg [(i 1), (i 0)]), (.v (.bool false))] nl :=
  known_ofF tOk mixed fnsAOk (B := []) trivial e215ok (n := 100000) (by kernel_rfl)
theorem k4 [Env] : Known Tryz.prog 215 [(.agg [x0, (i 0)]), (.agg [(.sl [[(i 1)]] false), (.sl [[(i 2)]] false)]), (.agg [(i 2), (i 0)]), (.v (.bool false))] nl :=
  known_ofF tOk mixed fnsAOk (B := []) trivial e215ok (n := 100000) (by kernel_rfl)
theorem k5 [Env] : Known Tryz.prog 215 [(.agg [x0, (i 0)]), (.agg [(.sl [[(i 1)]] false), (.sl [[(i 2)]] false)]), (.agg [(i 3), (i 0)]), (.v (.bool false))] nl :=
  known_ofF tOk mixed fnsAOk (B := []) trivial e215ok (n := 100000) (by kernel_rfl)
theorem k6 [Env] : Known Tryz.prog 215 [(.agg [x0, (i 0)]), (.agg [(.sl [[(i 1)]] false), (.sl [[(i 2)]] false)]), (.agg [(i 4), (i 0)]), (.v (.bool false))] nl :=
  known_ofF tOk mixed fnsAOk (B := []) trivial e215ok (n := 100000) (by kernel_rfl)
theorem k7 [Env] : Known Tryz.prog 215 [(.agg [x0, (i 0)]), (.agg [(.sl [[(i 1)]] false), (.sl [[(i 2)]] false)]), (.agg [(i 5), (i 0)]), (.v (.bool false))] nl :=
  known_ofF tOk mixed fnsAOk (B := []) trivial e215ok (n := 100000) (by kernel_rfl)
theorem k8 [Env] : Known Tryz.prog 215 [(.agg [x0, (i 0)]), (.agg [(.sl [[(i 1)]] false), (.sl [[(i 2)]] false)]), (.agg [(i 6), (i 0)]), (.v (.bool false))] nl :=
  known_ofF tOk mixed fnsAOk (B := []) trivial e215ok (n := 100000) (by kernel_rfl)
theorem k9 [Env] : Known Tryz.prog 215 [(.agg [x0, (i 0)]), (.agg [(.sl [[(i 1)]] false), (.sl [[(i 2)]] false)]), (.agg [(i 6), (i 1)]), (.v (.bool false))] nl :=
  known_ofF tOk mixed fnsAOk (B := []) trivial e215ok (n := 100000) (by kernel_rfl)
theorem k10 [Env] : Known Tryz.prog 215 [(.agg [x0, (i 0)]), (.agg [(.sl [[(i 1)]] false), (.sl [[(i 2)]] false)]), (.agg [(i 6), (i 2)]), (.v (.bool false))] nl :=
  known_ofF tOk mixed fnsAOk (B := []) trivial e215ok (n := 100000) (by kernel_rfl)
theorem k11 [Env] : Known Tryz.prog 215 [(.agg [x0, (i 0)]), (.agg [(.sl [[(i 1)]] false), (.sl [[(i 2)]] false)]), (.agg [(i 6), (i 3)]), (.v (.bool false))] nl :=
  known_ofF tOk mixed fnsAOk (B := []) trivial e215ok (n := 100000) (by kernel_rfl)
theorem k12 [Env] : Known Tryz.prog 215 [(.agg [x0, (i 0)]), (.agg [(.sl [[(i 1)]] false), (.sl [[(i 2)]] false)]), (.agg [(i 6), (i 4)]), (.v (.bool false))] nl :=
  known_ofF tOk mixed fnsAOk (B := []) trivial e215ok (n := 100000) (by kernel_rfl)
theorem k13 [Env] : Known Tryz.prog 215 [(.agg [x0, (i 0)]), (.agg [(.sl [[(i 1)]] false), (.sl [[(i 2)]] false)]), (.agg [(i 7), (i 0)]), (.v (.bool false))] nl :=
  known_ofF tOk mixed fnsAOk (B := []) trivial e215ok (n := 100000) (by kernel_rfl)
theorem k14 [Env] : Known Tryz.prog 215 [(.agg [x0, (i 0)]), (.agg [(.sl [[(i 1)]] false), (.sl [[(i 2)]] false)]), (.agg [(i 8), (i 0)]), (.v (.bool false))] nl :=
  known_ofF tOk mixed fnsAOk (B := []) trivial e215ok (n := 100000) (by kernel_rfl)
theorem k15 [Env] : Known Tryz.prog 215 [(.agg [x0, (i 0)]), (.agg [(.sl [[(i 1)]] false), (.sl [[(i 2)]] false)]), (.agg [(i 9), (i 0)]), (.v (.bool false))] nl :=
  known_ofF tOk mixed fnsAOk (B := []) trivial e215ok (n := 100000) (by kernel_rfl)
theorem k16 [Env] : Known Tryz.prog 215 [(.agg [x0, (i 0)]), (.agg [(.sl [[(i 1)]] false), (.sl [[(i 2)]] false)]), (.agg [(i 9), (i 1)]), (.v (.bool false))] nl :=
  known_ofF tOk mixed fnsAOk (B := []) trivial e215ok (n := 100000) (by kernel_rfl)
theorem k17 [Env] : Known Tryz.prog 215 [(.agg [x0, (i 0)]), (.agg [(.sl [[(i 1)]] false), (.sl [[(i 2)]] false)]), (.agg [(i 9), (i 2)]), (.v (.bool false))] nl :=
  known_ofF tOk mixed fnsAOk (B := []) trivial e215ok (n := 100000) (by kernel_rfl)
theorem k18 [Env] : Known Tryz.prog 215 [(.agg [x0, (i 0)]), (.agg [(.sl [[(i 1)]] false), (.sl [[(i 2)]] false)]), (.agg [(i 9), (i 3)]), (.v (.bool false))] nl :=
  known_ofF tOk mixed fnsAOk (B := []) trivial e215ok (n := 100000) (by kernel_rfl)
theorem k19 [Env] : Known Tryz.prog 215 [(.agg [x0, (i 0)]), (.agg [(.sl [[(i 1)]] false), (.sl [[(i 2)]] false)]), (.agg [(i 9), (i 4)]), (.v (.bool false))] nl :=
  known_ofF tOk mixed fnsAOk (B := []) trivial e215ok (n := 100000) (by kernel_rfl)
theorem k20 [Env] : Known Tryz.prog 139 [(.agg [x0, (i 0)]), (.agg [(.sl [[(i 0)]] true), (.sl [[(i 2)]] true), (.v (.bool false))])] (i 0) :=
  known_ofF tOk mixed fnsAOk (B := [(41, [([(.agg [x0, (i 0)])], (i 0))]), (215, [([(.agg [x0, (i 0)]), (.agg [(.sl [[(i 1)]] false), (.sl [[(i 2)]] false)]), (.agg [(i 1), (i 0)]), (.v (.bool false))], nl), ([(.agg [x0, (i 0)]), (.agg [(.sl [[(i 1)]] false), (.sl [[(i 2)]] false)]), (.agg [(i 2), (i 0)]), (.v (.bool false))], nl), ([(.agg [x0, (i 0)]), (.agg [(.sl [[(i 1)]] false), (.sl [[(i 2)]] false)]), (.agg [(i 3), (i 0)]), (.v (.bool false))], nl), ([(.agg [x0, (i 0)]), (.agg [(.sl [[(i 1)]] false), (.sl [[(i 2)]] false)]), (.agg [(i 4), (i 0)]), (.v (.bool false))], nl), ([(.agg [x0, (i 0)]), (.agg [(.sl [[(i 1)]] false), (.sl [[(i 2)]] false)]), (.agg [(i 5), (i 0)]), (.v (.bool false))], nl), ([(.agg [x0, (i 0)]), (.agg [(.sl [[(i 1)]] false), (.sl [[(i 2)]] false)]), (.agg [(i 6), (i 0)]), (.v (.bool false))], nl), ([(.agg [x0, (i 0)]), (.agg [(.sl [[(i 1)]] false), (.sl [[(i 2)]] false)]), (.agg [(i 6), (i 1)]), (.v (.bool false))], nl), ([(.agg [x0, (i 0)]), (.agg [(.sl [[(i 1)]] false), (.sl [[(i 2)]] false)]), (.agg [(i 6), (i 2)]), (.v (.bool false))], nl), ([(.agg [x0, (i 0)]), (.agg [(.sl [[(i 1)]] false), (.sl [[(i 2)]] false)]), (.agg [(i 6), (i 3)]), (.v (.bool false))], nl), ([(.agg [x0, (i 0)]), (.agg [(.sl [[(i 1)]] false), (.sl [[(i 2)]] false)]), (.agg [(i 6), (i 4)]), (.v (.bool false))], nl), ([(.agg [x0, (i 0)]), (.agg [(.sl [[(i 1)]] false), (.sl [[(i 2)]] false)]), (.agg [(i 7), (i 0)]), (.v (.bool false))], nl), ([(.agg [x0, (i 0)]), (.agg [(.sl [[(i 1)]] false), (.sl [[(i 2)]] false)]), (.agg [(i 8), (i 0)]), (.v (.bool false))], nl), ([(.agg [x0, (i 0)]), (.agg [(.sl [[(i 1)]] false), (.sl [[(i 2)]] false)]), (.agg [(i 9), (i 0)]), (.v (.bool false))], nl), ([(.agg [x0, (i 0)]), (.agg [(.sl [[(i 1)]] false), (.sl [[(i 2)]] false)]), (.agg [(i 9), (i 1)]), (.v (.bool false))], nl), ([(.agg [x0, (i 0)]), (.agg [(.sl [[(i 1)]] false), (.sl [[(i 2)]] false)]), (.agg [(i 9), (i 2)]), (.v (.bool false))], nl), ([(.agg [x0, (i 0)]), (.agg [(.sl [[(i 1)]] false), (.sl [[(i 2)]] false)]), (.agg [(i 9), (i 3)]), (.v (.bool false))], nl), ([(.agg [x0, (i 0)]), (.agg [(.sl [[(i 1)]] false), (.sl [[(i 2)]] false)]), (.agg [(i 9), (i 4)]), (.v (.bool false))], nl)])]) ⟨⟨k2, trivial⟩, ⟨k3, k4, k5, k6, k7, k8, k9, k10, k11, k12, k13, k14, k15, k16, k17, k18, k19, trivial⟩, trivial⟩ e139ok (n := 100000) (by kernel_rfl)
theorem k21 [Env] : Known Tryz.prog 52 [(.agg [(.sl [[(i 17), (i 0), (i 0), (sb []), (.sl [[(i 1)]] false), nl, (i 0), (i 0)], [(i 3), (j 9223372036854775807), (i 9223372036854775807), (sb []), nl, nl, (i 0), (i 0)]] false), (i 0)]), (.agg [(.sl [[(i 3), (j 9223372036854775807), (i 9223372036854775807), (sb []), nl, nl, (i 0), (i 0)]] true), (i 0)])] (.v (.bool true)) :=
  known_ofF tOk mixed fnsAOk (B := [(41, [([(.agg [(.sl [[(i 17), (i 0), (i 0), (sb []), (.sl [[(i 1)]] false), nl, (i 0), (i 0)], [(i 3), (j 9223372036854775807), (i 9223372036854775807), (sb []), nl, nl, (i 0), (i 0)]] false), (i 0)])], (i 0)), ([(.agg [(.sl [[(i 3), (j 9223372036854775807), (i 9223372036854775807), (sb []), nl, nl, (i 0), (i 0)]] true), (i 0)])], (i 0))]), (139, [([(.agg [x0, (i 0)]), (.agg [(.sl [[(i 0)]] true), (.sl [[(i 2)]] true), (.v (.bool false))])], (i 0))])]) ⟨⟨k0, k1, trivial⟩, ⟨k20, trivial⟩, trivial⟩ e52ok (n := 100000) (by kernel_rfl)
theorem k22 [Env] : Known Tryz.prog 41 [(.agg [x1, (i 0)])] (i 0) :=
  known_ofF tOk mixed fnsAOk (B := []) trivial e41ok (n := 100000) (by kernel_rfl)
theorem k23 [Env] : Known Tryz.prog 215 [(.agg [x1, (i 0)]), (.agg [(.sl [[(i 0)]] false), (.sl [[(i 2)]] false)]), (.agg [(i 1), (i 0)]), (.v (.bool false))] nl :=
  known_ofF tOk mixed fnsAOk (B := []) trivial e215ok (n := 100000) (by kernel_rfl)
theorem k24 [Env] : Known Tryz.prog 215 [(.agg [x1, (i 0)]), (.agg [(.sl [[(i 0)]] false), (.sl [[(i 2)]] false)]), (.agg [(i 2), (i 0)]), (.v (.bool false))] nl :=
  known_ofF tOk mixed fnsAOk (B := []) trivial e215ok (n := 100000) (by kernel_rfl)
theorem k25 [Env] : Known Tryz.prog 215 [(.agg [x1, (i 0)]), (.agg [(.sl [[(i 0)]] false), (.sl [[(i 2)]] false)]), (.agg [(i 3), (i 0)]), (.v (.bool false))] nl :=
  known_ofF tOk mixed fnsAOk (B := []) trivial e215ok (n := 100000) (by kernel_rfl)
theorem k26 [Env] : Known Tryz.prog 215 [(.agg [x1, (i 0)]), (.agg [(.sl [[(i 0)]] false), (.sl [[(i 2)]] false)]), (.agg [(i 4), (i 0)]), (.v (.bool false))] nl :=
  known_ofF tOk mixed fnsAOk (B := []) trivial e215ok (n := 100000) (by kernel_rfl)
theorem k27 [Env] : Known Tryz.prog 215 [(.agg [x1, (i 0)]), (.agg [(.sl [[(i 0)]] false), (.sl [[(i 2)]] false)]), (.agg [(i 5), (i 0)]), (.v (.bool false))] nl :=
  known_ofF tOk mixed fnsAOk (B := []) trivial e215ok (n := 100000) (by kernel_rfl)
theorem k28 [Env] : Known Tryz.prog 215 [(.agg [x1, (i 0)]), (.agg [(.sl [[(i 0)]] false), (.sl [[(i 2)]] false)]), (.agg [(i 6), (i 0)]), (.v (.bool false))] nl :=
  known_ofF tOk mixed fnsAOk (B := []) trivial e215ok (n := 100000) (by kernel_rfl)
theorem k29 [Env] : Known Tryz.prog 215 [(.agg [x1, (i 0)]), (.agg [(.sl [[(i 0)]] false), (.sl [[(i 2)]] false)]), (.agg [(i 6), (i 1)]), (.v (.bool false))] nl :=
  known_ofF tOk mixed fnsAOk (B := []) trivial e215ok (n := 100000) (by kernel_rfl)
theorem k30 [Env] : Known Tryz.prog 215 [(.agg [x1, (i 0)]), (.agg [(.sl [[(i 0)]] false), (.sl [[(i 2)]] false)]), (.agg [(i 6), (i 2)]), (.v (.bool false))] nl :=
  known_ofF tOk mixed fnsAOk (B := []) trivial e215ok (n := 100000) (by kernel_rfl)
theorem k31 [Env] : Known Tryz.prog 215 [(.agg [x1, (i 0)]), (.agg [(.sl [[(i 0)]] false), (.sl [[(i 2)]] false)]), (.agg [(i 6), (i 3)]), (.v (.bool false))] nl :=
  known_ofF tOk mixed fnsAOk (B := []) trivial e215ok (n := 100000) (by kernel_rfl)
theorem k32 [Env] : Known Tryz.prog 215 [(.agg [x1, (i 0)]), (.agg [(.sl [[(i 0)]] false), (.sl [[(i 2)]] false)]), (.agg [(i 6), (i 4)]), (.v (.bool false))] nl :=
  known_ofF tOk mixed fnsAOk (B := []) trivial e215ok (n := 100000) (by kernel_rfl)
theorem k33 [Env] : Known Tryz.prog 215 [(.agg [x1, (i 0)]), (.agg [(.sl [[(i 0)]] false), (.sl [[(i 2)]] false)]), (.agg [(i 7), (i 0)]), (.v (.bool false))] nl :=
  known_ofF tOk mixed fnsAOk (B := []) trivial e215ok (n := 100000) (by kernel_rfl)
theorem k34 [Env] : Known Tryz.prog 215 [(.agg [x1, (i 0)]), (.agg [(.sl [[(i 0)]] false), (.sl [[(i 2)]] false)]), (.agg [(i 8), (i 0)]), (.v (.bool false))] nl :=
  known_ofF tOk mixed fnsAOk (B := []) trivial e215ok (n := 100000) (by kernel_rfl)
theorem k35 [Env] : Known Tryz.prog 215 [(.agg [x1, (i 0)]), (.agg [(.sl [[(i 0)]] false), (.sl [[(i 2)]] false)]), (.agg [(i 9), (i 0)]), (.v (.bool false))] nl :=
  known_ofF tOk mixed fnsAOk (B := []) trivial e215ok (n := 100000) (by kernel_rfl)
theorem k36 [Env] : Known Tryz.prog 215 [(.agg [x1, (i 0)]), (.agg [(.sl [[(i 0)]] false), (.sl [[(i 2)]] false)]), (.agg [(i 9), (i 1)]), (.v (.bool false))] nl :=
  known_ofF tOk mixed fnsAOk (B := []) trivial e215ok (n := 100000) (by kernel_rfl)
theorem k37 [Env] : Known Tryz.prog 215 [(.agg [x1, (i 0)]), (.agg [(.sl [[(i 0)]] false), (.sl [[(i 2)]] false)]), (.agg [(i 9), (i 2)]), (.v (.bool false))] nl :=
  known_ofF tOk mixed fnsAOk (B := []) trivial e215ok (n := 100000) (by kernel_rfl)
theorem k38 [Env] : Known Tryz.prog 215 [(.agg [x1, (i 0)]), (.agg [(.sl [[(i 0)]] false), (.sl [[(i 2)]] false)]), (.agg [(i 9), (i 3)]), (.v (.bool false))] nl :=
  known_ofF tOk mixed fnsAOk (B := []) trivial e215ok (n := 100000) (by kernel_rfl)
theorem k39 [Env] : Known Tryz.prog 215 [(.agg [x1, (i 0)]), (.agg [(.sl [[(i 0)]] false), (.sl [[(i 2)]] false)]), (.agg [(i 9), (i 4)]), (.v (.bool false))] nl :=
  known_ofF tOk mixed fnsAOk (B := []) trivial e215ok (n := 100000) (by kernel_rfl)
theorem k40 [Env] : Known Tryz.prog 139 [(.agg [x1, (i 0)]), (.agg [(.sl [[(i 0)]] true), (.sl [[(i 1)]] true), (.v (.bool false))])] (i 0) :=
  known_ofF tOk mixed fnsAOk (B := [(41, [([(.agg [x1, (i 0)])], (i 0))]), (215, [([(.agg [x1, (i 0)]), (.agg [(.sl [[(i 0)]] false), (.sl [[(i 2)]] false)]), (.agg [(i 1), (i 0)]), (.v (.bool false))], nl), ([(.agg [x1, (i 0)]), (.agg [(.sl [[(i 0)]] false), (.sl [[(i 2)]] false)]), (.agg [(i 2), (i 0)]), (.v (.bool false))], nl), ([(.agg [x1, (i 0)]), (.agg [(.sl [[(i 0)]] false), (.sl [[(i 2)]] false)]), (.agg [(i 3), (i 0)]), (.v (.bool false))], nl), ([(.agg [x1, (i 0)]), (.agg [(.sl [[(i 0)]] false), (.sl [[(i 2)]] false)]), (.agg [(i 4), (i 0)]), (.v (.bool false))], nl), ([(.agg [x1, (i 0)]), (.agg [(.sl [[(i 0)]] false), (.sl [[(i 2)]] false)]), (.agg [(i 5), (i 0)]), (.v (.bool false))], nl), ([(.agg [x1, (i 0)]), (.agg [(.sl [[(i 0)]] false), (.sl [[(i 2)]] false)]), (.agg [(i 6), (i 0)]), (.v (.bool false))], nl), ([(.agg [x1, (i 0)]), (.agg [(.sl [[(i 0)]] false), (.sl [[(i 2)]] false)]), (.agg [(i 6), (i 1)]), (.v (.bool false))], nl), ([(.agg [x1, (i 0)]), (.agg [(.sl [[(i 0)]] false), (.sl [[(i 2)]] false)]), (.agg [(i 6), (i 2)]), (.v (.bool false))], nl), ([(.agg [x1, (i 0)]), (.agg [(.sl [[(i 0)]] false), (.sl [[(i 2)]] false)]), (.agg [(i 6), (i 3)]), (.v (.bool false))], nl), ([(.agg [x1, (i 0)]), (.agg [(.sl [[(i 0)]] false), (.sl [[(i 2)]] false)]), (.agg [(i 6), (i 4)]), (.v (.bool false))], nl), ([(.agg [x1, (i 0)]), (.agg [(.sl [[(i 0)]] false), (.sl [[(i 2)]] false)]), (.agg [(i 7), (i 0)]), (.v (.bool false))], nl), ([(.agg [x1, (i 0)]), (.agg [(.sl [[(i 0)]] false), (.sl [[(i 2)]] false)]), (.agg [(i 8), (i 0)]), (.v (.bool false))], nl), ([(.agg [x1, (i 0)]), (.agg [(.sl [[(i 0)]] false), (.sl [[(i 2)]] false)]), (.agg [(i 9), (i 0)]), (.v (.bool false))], nl), ([(.agg [x1, (i 0)]), (.agg [(.sl [[(i 0)]] false), (.sl [[(i 2)]] false)]), (.agg [(i 9), (i 1)]), (.v (.bool false))], nl), ([(.agg [x1, (i 0)]), (.agg [(.sl [[(i 0)]] false), (.sl [[(i 2)]] false)]), (.agg [(i 9), (i 2)]), (.v (.bool false))], nl), ([(.agg [x1, (i 0)]), (.agg [(.sl [[(i 0)]] false), (.sl [[(i 2)]] false)]), (.agg [(i 9), (i 3)]), (.v (.bool false))], nl), ([(.agg [x1, (i 0)]), (.agg [(.sl [[(i 0)]] false), (.sl [[(i 2)]] false)]), (.agg [(i 9), (i 4)]), (.v (.bool false))], nl)])]) ⟨⟨k22, trivial⟩, ⟨k23, k24, k25, k26, k27, k28, k29, k30, k31, k32, k33, k34, k35, k36, k37, k38, k39, trivial⟩, trivial⟩ e139ok (n := 100000) (by kernel_rfl)
theorem k41 [Env] : Known Tryz.prog 52 [(.agg [(.sl [[(i 3), (j 9223372036854775807), (i 9223372036854775807), (sb []), nl, nl, (i 0), (i 0)]] true), (i 0)]), (.agg [(.sl [[(i 17), (i 0), (i 0), (sb []), (.sl [[(i 1)]] false), nl, (i 0), (i 0)], [(i 3), (j 9223372036854775807), (i 9223372036854775807), (sb []), nl, nl, (i 0), (i 0)]] false), (i 0)])] (.v (.bool true)) :=
  known_ofF tOk mixed fnsAOk (B := [(41, [([(.agg [(.sl [[(i 3), (j 9223372036854775807), (i 9223372036854775807), (sb []), nl, nl, (i 0), (i 0)]] true), (i 0)])], (i 0)), ([(.agg [(.sl [[(i 17), (i 0), (i 0), (sb []), (.sl [[(i 1)]] false), nl, (i 0), (i 0)], [(i 3), (j 9223372036854775807), (i 9223372036854775807), (sb []), nl, nl, (i 0), (i 0)]] false), (i 0)])], (i 0))]), (139, [([(.agg [x1, (i 0)]), (.agg [(.sl [[(i 0)]] true), (.sl [[(i 1)]] true), (.v (.bool false))])], (i 0))])]) ⟨⟨k1, k0, trivial⟩, ⟨k40, trivial⟩, trivial⟩ e52ok (n := 100000) (by kernel_rfl)
theorem k42 [Env] : Known Tryz.prog 24 [(.agg [(.sl [[(i 17), (i 0), (i 0), (sb []), (.sl [[(i 1)]] false), nl, (i 0), (i 0)], [(i 3), (j 9223372036854775807), (i 9223372036854775807), (sb []), nl, nl, (i 0), (i 0)]] false), (i 0)]), (.agg [(.sl [[(i 3), (j 9223372036854775807), (i 9223372036854775807), (sb []), nl, nl, (i 0), (i 0)]] true), (i 0)])] (.v (.bool true)) :=
  known_ofF tOk mixed fnsAOk (B := [(52, [([(.agg [(.sl [[(i 17), (i 0), (i 0), (sb []), (.sl [[(i 1)]] false), nl, (i 0), (i 0)], [(i 3), (j 9223372036854775807), (i 9223372036854775807), (sb []), nl, nl, (i 0), (i 0)]] false), (i 0)]), (.agg [(.sl [[(i 3), (j 9223372036854775807), (i 9223372036854775807), (sb []), nl, nl, (i 0), (i 0)]] true), (i 0)])], (.v (.bool true))), ([(.agg [(.sl [[(i 3), (j 9223372036854775807), (i 9223372036854775807), (sb []), nl, nl, (i 0), (i 0)]] true), (i 0)]), (.agg [(.sl [[(i 17), (i 0), (i 0), (sb []), (.sl [[(i 1)]] false), nl, (i 0), (i 0)], [(i 3), (j 9223372036854775807), (i 9223372036854775807), (sb []), nl, nl, (i 0), (i 0)]] false), (i 0)])], (.v (.bool true)))])]) ⟨⟨k21, k41, trivial⟩, trivial⟩ e24ok (n := 100000) (by kernel_rfl)
theorem k43 [Env] : Known Tryz.prog 41 [(.agg [x2, (i 0)])] (i 0) :=
  known_ofF tOk mixed fnsAOk (B := []) trivial e41ok (n := 100000) (by kernel_rfl)
theorem k44 [Env] : Known Tryz.prog 41 [(.agg [(.sl [[(i 13), (i 0), (i 0), (sb []), nl, (.sl [[(i 0), (sb [97]), (i 1), (.v (.bool false))]] true), (i 1), (i 1)], [(i 2), (i 0), (i 0), (sb []), nl, nl, (i 0), (i 0)]] true), (i 0)])] (i 0) :=
  known_ofF tOk mixed fnsAOk (B := []) trivial e41ok (n := 100000) (by kernel_rfl)
theorem k45 [Env] : Known Tryz.prog 41 [(.agg [x3, (i 0)])] (i 0) :=
  known_ofF tOk mixed fnsAOk (B := []) trivial e41ok (n := 100000) (by kernel_rfl)
theorem k46 [Env] : Known Tryz.prog 215 [(.agg [x3, (i 0)]), (.agg [(.sl [[(i 1)]] false), (.sl [[(i 3)]] false)]), (.agg [(i 1), (i 0)]), (.v (.bool false))] nl :=
  known_ofF tOk mixed fnsAOk (B := []) trivial e215ok (n := 100000) (by kernel_rfl)
theorem k47 [Env] : Known Tryz.prog 215 [(.agg [x3, (i 0)]), (.agg [(.sl [[(i 1)]] false), (.sl [[(i 3)]] false)]), (.agg [(i 2), (i 0)]), (.v (.bool false))] nl :=
  known_ofF tOk mixed fnsAOk (B := []) trivial e215ok (n := 100000) (by kernel_rfl)
theorem k48 [Env] : Known Tryz.prog 215 [(.agg [x3, (i 0)]), (.agg [(.sl [[(i 1)]] false), (.sl [[(i 3)]] false)]), (.agg [(i 3), (i 0)]), (.v (.bool false))] nl :=
  known_ofF tOk mixed fnsAOk (B := []) trivial e215ok (n := 100000) (by kernel_rfl)
theorem k49 [Env] : Known Tryz.prog 215 [(.agg [x3, (i 0)]), (.agg [(.sl [[(i 1)]] false), (.sl [[(i 3)]] false)]), (.agg [(i 4), (i 0)]), (.v (.bool false))] nl :=
  known_ofF tOk mixed fnsAOk (B := []) trivial e215ok (n := 100000) (by kernel_rfl)
theorem k50 [Env] : Known Tryz.prog 215 [(.agg [x3, (i 0)]), (.agg [(.sl [[(i 1)]] false), (.sl [[(i 3)]] false)]), (.agg [(i 5), (i 0)]), (.v (.bool false))] nl :=
  known_ofF tOk mixed fnsAOk (B := []) trivial e215ok (n := 100000) (by kernel_rfl)
theorem k51 [Env] : Known Tryz.prog 215 [(.agg [x3, (i 0)]), (.agg [(.sl [[(i 1)]] false), (.sl [[(i 3)]] false)]), (.agg [(i 6), (i 0)]), (.v (.bool false))] nl :=
  known_ofF tOk mixed fnsAOk (B := []) trivial e215ok (n := 100000) (by kernel_rfl)
theorem k52 [Env] : Known Tryz.prog 215 [(.agg [x3, (i 0)]), (.agg [(.sl [[(i 1)]] false), (.sl [[(i 3)]] false)]), (.agg [(i 6), (i 1)]), (.v (.bool false))] nl :=
  known_ofF tOk mixed fnsAOk (B := []) trivial e215ok (n := 100000) (by kernel_rfl)
theorem k53 [Env] : Known Tryz.prog 215 [(.agg [x3, (i 0)]), (.agg [(.sl [[(i 1)]] false), (.sl [[(i 3)]] false)]), (.agg [(i 6), (i 2)]), (.v (.bool false))] nl :=
  known_ofF tOk mixed fnsAOk (B := []) trivial e215ok (n := 100000) (by kernel_rfl)
theorem k54 [Env] : Known Tryz.prog 215 [(.agg [x3, (i 0)]), (.agg [(.sl [[(i 1)]] false), (.sl [[(i 3)]] false)]), (.agg [(i 6), (i 3)]), (.v (.bool false))] nl :=
  known_ofF tOk mixed fnsAOk (B := []) trivial e215ok (n := 100000) (by kernel_rfl)
theorem k55 [Env] : Known Tryz.prog 215 [(.agg [x3, (i 0)]), (.agg [(.sl [[(i 1)]] false), (.sl [[(i 3)]] false)]), (.agg [(i 6), (i 4)]), (.v (.bool false))] nl :=
  known_ofF tOk mixed fnsAOk (B := []) trivial e215ok (n := 100000) (by kernel_rfl)
theorem k56 [Env] : Known Tryz.prog 215 [(.agg [x3, (i 0)]), (.agg [(.sl [[(i 1)]] false), (.sl [[(i 3)]] false)]), (.agg [(i 7), (i 0)]), (.v (.bool false))] nl :=
  known_ofF tOk mixed fnsAOk (B := []) trivial e215ok (n := 100000) (by kernel_rfl)
theorem k57 [Env] : Known Tryz.prog 215 [(.agg [x3, (i 0)]), (.agg [(.sl [[(i 1)]] false), (.sl [[(i 3)]] false)]), (.agg [(i 8), (i 0)]), (.v (.bool false))] x4 :=
  known_ofF tOk mixed fnsAOk (B := []) trivial e215ok (n := 100000) (by kernel_rfl)
theorem k58 [Env] : Known Tryz.prog 215 [(.agg [x3, (i 0)]), (.agg [(.sl [[(i 1)]] false), (.sl [[(i 3)]] false)]), (.agg [(i 9), (i 0)]), (.v (.bool false))] nl :=
  known_ofF tOk mixed fnsAOk (B := []) trivial e215ok (n := 100000) (by kernel_rfl)
theorem k59 [Env] : Known Tryz.prog 215 [(.agg [x3, (i 0)]), (.agg [(.sl [[(i 1)]] false), (.sl [[(i 3)]] false)]), (.agg [(i 9), (i 1)]), (.v (.bool false))] nl :=
  known_ofF tOk mixed fnsAOk (B := []) trivial e215ok (n := 100000) (by kernel_rfl)
theorem k60 [Env] : Known Tryz.prog 215 [(.agg [x3, (i 0)]), (.agg [(.sl [[(i 1)]] false), (.sl [[(i 3)]] false)]), (.agg [(i 9), (i 2)]), (.v (.bool false))] nl :=
  known_ofF tOk mixed fnsAOk (B := []) trivial e215ok (n := 100000) (by kernel_rfl)
theorem k61 [Env] : Known Tryz.prog 215 [(.agg [x3, (i 0)]), (.agg [(.sl [[(i 1)]] false), (.sl [[(i 3)]] false)]), (.agg [(i 9), (i 3)]), (.v (.bool false))] nl :=
  known_ofF tOk mixed fnsAOk (B := []) trivial e215ok (n := 100000) (by kernel_rfl)
theorem k62 [Env] : Known Tryz.prog 215 [(.agg [x3, (i 0)]), (.agg [(.sl [[(i 1)]] false), (.sl [[(i 3)]] false)]), (.agg [(i 9), (i 4)]), (.v (.bool false))] nl :=
  known_ofF tOk mixed fnsAOk (B := []) trivial e215ok (n := 100000) (by kernel_rfl)
theorem k63 [Env] : Known Tryz.prog 215 [(.agg [x3, (i 0)]), (.agg [nl, nl]), (.agg [(i 1), (i 0)]), (.v (.bool false))] (.sl [[(i 1), (i 0), nl]] true) :=
  known_ofF tOk mixed fnsAOk (B := []) trivial e215ok (n := 100000) (by kernel_rfl)
theorem k64 [Env] : Known Tryz.prog 215 [(.agg [x3, (i 0)]), (.agg [nl, nl]), (.agg [(i 2), (i 0)]), (.v (.bool false))] (.sl [[(i 2), (i 0), nl]] true) :=
  known_ofF tOk mixed fnsAOk (B := []) trivial e215ok (n := 100000) (by kernel_rfl)
theorem k65 [Env] : Known Tryz.prog 215 [(.agg [x3, (i 0)]), (.agg [nl, nl]), (.agg [(i 3), (i 0)]), (.v (.bool false))] (.sl [[(i 3), (i 0), nl]] true) :=
  known_ofF tOk mixed fnsAOk (B := []) trivial e215ok (n := 100000) (by kernel_rfl)
theorem k66 [Env] : Known Tryz.prog 215 [(.agg [x3, (i 0)]), (.agg [nl, nl]), (.agg [(i 4), (i 0)]), (.v (.bool false))] (.sl [[(i 4), (i 0), nl]] true) :=
  known_ofF tOk mixed fnsAOk (B := []) trivial e215ok (n := 100000) (by kernel_rfl)
theorem k67 [Env] : Known Tryz.prog 215 [(.agg [x3, (i 0)]), (.agg [nl, nl]), (.agg [(i 5), (i 0)]), (.v (.bool false))] (.sl [[(i 5), (i 0), nl]] true) :=
  known_ofF tOk mixed fnsAOk (B := []) trivial e215ok (n := 100000) (by kernel_rfl)
theorem k68 [Env] : Known Tryz.prog 215 [(.agg [x3, (i 0)]), (.agg [nl, nl]), (.agg [(i 6), (i 0)]), (.v (.bool false))] (.sl [[(i 6), (i 0), nl]] true) :=
  known_ofF tOk mixed fnsAOk (B := []) trivial e215ok (n := 100000) (by kernel_rfl)
theorem k69 [Env] : Known Tryz.prog 215 [(.agg [x3, (i 0)]), (.agg [nl, nl]), (.agg [(i 6), (i 1)]), (.v (.bool false))] (.sl [[(i 6), (i 1), (.sl [[(.sl [[(.sl [[nl, nl, (.v (.bool false))]] false)]] true)]] true)]] false) :=
  known_ofF tOk mixed fnsAOk (B := []) trivial e215ok (n := 100000) (by kernel_rfl)
theorem k70 [Env] : Known Tryz.prog 215 [(.agg [x3, (i 0)]), (.agg [nl, nl]), (.agg [(i 6), (i 2)]), (.v (.bool false))] (.sl [[(i 6), (i 2), (.sl [[(.sl [[(.sl [[nl, nl, (.v (.bool false))], [nl, nl, (.v (.bool false))]] false)]] true)]] true)]] false) :=
  known_ofF tOk mixed fnsAOk (B := []) trivial e215ok (n := 100000) (by kernel_rfl)
theorem k71 [Env] : Known Tryz.prog 215 [(.agg [x3, (i 0)]), (.agg [nl, nl]), (.agg [(i 6), (i 3)]), (.v (.bool false))] (.sl [[(i 6), (i 3), (.sl [[(.sl [[(.sl [[nl, nl, (.v (.bool false))], [nl, nl, (.v (.bool false))], [nl, nl, (.v (.bool false))]] false)]] true)]] true)]] false) :=
  known_ofF tOk mixed fnsAOk (B := []) trivial e215ok (n := 100000) (by kernel_rfl)
theorem k72 [Env] : Known Tryz.prog 215 [(.agg [x3, (i 0)]), (.agg [nl, nl]), (.agg [(i 6), (i 4)]), (.v (.bool false))] x5 :=
  known_ofF tOk mixed fnsAOk (B := []) trivial e215ok (n := 100000) (by kernel_rfl)
theorem k73 [Env] : Known Tryz.prog 215 [(.agg [x3, (i 0)]), (.agg [nl, nl]), (.agg [(i 7), (i 0)]), (.v (.bool false))] (.sl [[(i 7), (i 0), (.sl [[(.sl [[(.sl [[nl, nl, (.v (.bool false))], [nl, nl, (.v (.bool true))]] false)]] true)]] true)]] false) :=
  known_ofF tOk mixed fnsAOk (B := []) trivial e215ok (n := 100000) (by kernel_rfl)
theorem k74 [Env] : Known Tryz.prog 215 [(.agg [x3, (i 0)]), (.agg [nl, nl]), (.agg [(i 8), (i 0)]), (.v (.bool false))] (.sl [[(i 8), (i 0), (.sl [[(.sl [[nl]] true)]] true)]] false) :=
  known_ofF tOk mixed fnsAOk (B := []) trivial e215ok (n := 100000) (by kernel_rfl)
theorem k75 [Env] : Known Tryz.prog 215 [(.agg [x3, (i 0)]), (.agg [nl, nl]), (.agg [(i 9), (i 0)]), (.v (.bool false))] (.sl [[(i 9), (i 0), nl]] true) :=
  known_ofF tOk mixed fnsAOk (B := []) trivial e215ok (n := 100000) (by kernel_rfl)
theorem k76 [Env] : Known Tryz.prog 215 [(.agg [x3, (i 0)]), (.agg [nl, nl]), (.agg [(i 9), (i 1)]), (.v (.bool false))] (.sl [[(i 9), (i 1), nl]] true) :=
  known_ofF tOk mixed fnsAOk (B := []) trivial e215ok (n := 100000) (by kernel_rfl)
theorem k77 [Env] : Known Tryz.prog 215 [(.agg [x3, (i 0)]), (.agg [nl, nl]), (.agg [(i 9), (i 2)]), (.v (.bool false))] (.sl [[(i 9), (i 2), nl]] true) :=
  known_ofF tOk mixed fnsAOk (B := []) trivial e215ok (n := 100000) (by kernel_rfl)
theorem k78 [Env] : Known Tryz.prog 215 [(.agg [x3, (i 0)]), (.agg [nl, nl]), (.agg [(i 9), (i 3)]), (.v (.bool false))] (.sl [[(i 9), (i 3), nl]] true) :=
  known_ofF tOk mixed fnsAOk (B := []) trivial e215ok (n := 100000) (by kernel_rfl)
theorem k79 [Env] : Known Tryz.prog 215 [(.agg [x3, (i 0)]), (.agg [nl, nl]), (.agg [(i 9), (i 4)]), (.v (.bool false))] (.sl [[(i 9), (i 4), nl]] true) :=
  known_ofF tOk mixed fnsAOk (B := []) trivial e215ok (n := 100000) (by kernel_rfl)
theorem k80 [Env] : Known Tryz.prog 215 [(.agg [x3, (i 0)]), (.agg [nl, nl]), (.agg [(i 1), (i 0)]), (.v (.bool true))] nl :=
  known_ofF tOk mixed fnsAOk (B := []) trivial e215ok (n := 100000) (by kernel_rfl)
theorem k81 [Env] : Known Tryz.prog 215 [(.agg [x3, (i 0)]), (.agg [nl, nl]), (.agg [(i 2), (i 0)]), (.v (.bool true))] nl :=
  known_ofF tOk mixed fnsAOk (B := []) trivial e215ok (n := 100000) (by kernel_rfl)
theorem k82 [Env] : Known Tryz.prog 215 [(.agg [x3, (i 0)]), (.agg [nl, nl]), (.agg [(i 3), (i 0)]), (.v (.bool true))] nl :=
  known_ofF tOk mixed fnsAOk (B := []) trivial e215ok (n := 100000) (by kernel_rfl)
theorem k83 [Env] : Known Tryz.prog 215 [(.agg [x3, (i 0)]), (.agg [nl, nl]), (.agg [(i 4), (i 0)]), (.v (.bool true))] nl :=
  known_ofF tOk mixed fnsAOk (B := []) trivial e215ok (n := 100000) (by kernel_rfl)
theorem k84 [Env] : Known Tryz.prog 215 [(.agg [x3, (i 0)]), (.agg [nl, nl]), (.agg [(i 5), (i 0)]), (.v (.bool true))] (.sl [[(i 5), (i 0), nl]] true) :=
  known_ofF tOk mixed fnsAOk (B := []) trivial e215ok (n := 100000) (by kernel_rfl)
theorem k85 [Env] : Known Tryz.prog 215 [(.agg [x3, (i 0)]), (.agg [nl, nl]), (.agg [(i 6), (i 0)]), (.v (.bool true))] nl :=
  known_ofF tOk mixed fnsAOk (B := []) trivial e215ok (n := 100000) (by kernel_rfl)
theorem k86 [Env] : Known Tryz.prog 215 [(.agg [x3, (i 0)]), (.agg [nl, nl]), (.agg [(i 6), (i 1)]), (.v (.bool true))] nl :=
  known_ofF tOk mixed fnsAOk (B := []) trivial e215ok (n := 100000) (by kernel_rfl)
theorem k87 [Env] : Known Tryz.prog 215 [(.agg [x3, (i 0)]), (.agg [nl, nl]), (.agg [(i 6), (i 2)]), (.v (.bool true))] nl :=
  known_ofF tOk mixed fnsAOk (B := []) trivial e215ok (n := 100000) (by kernel_rfl)
theorem k88 [Env] : Known Tryz.prog 215 [(.agg [x3, (i 0)]), (.agg [nl, nl]), (.agg [(i 6), (i 3)]), (.v (.bool true))] nl :=
  known_ofF tOk mixed fnsAOk (B := []) trivial e215ok (n := 100000) (by kernel_rfl)
theorem k89 [Env] : Known Tryz.prog 215 [(.agg [x3, (i 0)]), (.agg [nl, nl]), (.agg [(i 6), (i 4)]), (.v (.bool true))] nl :=
  known_ofF tOk mixed fnsAOk (B := []) trivial e215ok (n := 100000) (by kernel_rfl)
theorem k90 [Env] : Known Tryz.prog 215 [(.agg [x3, (i 0)]), (.agg [nl, nl]), (.agg [(i 7), (i 0)]), (.v (.bool true))] (.sl [[(i 7), (i 0), (.sl [[(.sl [[(.sl [[nl, nl, (.v (.bool false))], [nl, nl, (.v (.bool true))]] false)]] true)]] true)]] false) :=
  known_ofF tOk mixed fnsAOk (B := []) trivial e215ok (n := 100000) (by kernel_rfl)
theorem k91 [Env] : Known Tryz.prog 215 [(.agg [x3, (i 0)]), (.agg [nl, nl]), (.agg [(i 8), (i 0)]), (.v (.bool true))] nl :=
  known_ofF tOk mixed fnsAOk (B := []) trivial e215ok (n := 100000) (by kernel_rfl)
theorem k92 [Env] : Known Tryz.prog 215 [(.agg [x3, (i 0)]), (.agg [nl, nl]), (.agg [(i 9), (i 0)]), (.v (.bool true))] nl :=
  known_ofF tOk mixed fnsAOk (B := []) trivial e215ok (n := 100000) (by kernel_rfl)
theorem k93 [Env] : Known Tryz.prog 215 [(.agg [x3, (i 0)]), (.agg [nl, nl]), (.agg [(i 9), (i 1)]), (.v (.bool true))] nl :=
  known_ofF tOk mixed fnsAOk (B := []) trivial e215ok (n := 100000) (by kernel_rfl)
theorem k94 [Env] : Known Tryz.prog 215 [(.agg [x3, (i 0)]), (.agg [nl, nl]), (.agg [(i 9), (i 2)]), (.v (.bool true))] nl :=
  known_ofF tOk mixed fnsAOk (B := []) trivial e215ok (n := 100000) (by kernel_rfl)
theorem k95 [Env] : Known Tryz.prog 215 [(.agg [x3, (i 0)]), (.agg [nl, nl]), (.agg [(i 9), (i 3)]), (.v (.bool true))] nl :=
  known_ofF tOk mixed fnsAOk (B := []) trivial e215ok (n := 100000) (by kernel_rfl)
theorem k96 [Env] : Known Tryz.prog 215 [(.agg [x3, (i 0)]), (.agg [nl, nl]), (.agg [(i 9), (i 4)]), (.v (.bool true))] nl :=
  known_ofF tOk mixed fnsAOk (B := []) trivial e215ok (n := 100000) (by kernel_rfl)
theorem k97 [Env] : Known Tryz.prog 139 [(.agg [x3, (i 0)]), (.agg [(.sl [[(i 0)]] true), (.sl [[(i 3)]] true), (.v (.bool false))])] (i 0) :=
  known_ofF tOk mixed fnsAOk (B := [(41, [([(.agg [x3, (i 0)])], (i 0))]), (215, [([(.agg [x3, (i 0)]), (.agg [(.sl [[(i 1)]] false), (.sl [[(i 3)]] false)]), (.agg [(i 1), (i 0)]), (.v (.bool false))], nl), ([(.agg [x3, (i 0)]), (.agg [(.sl [[(i 1)]] false), (.sl [[(i 3)]] false)]), (.agg [(i 2), (i 0)]), (.v (.bool false))], nl), ([(.agg [x3, (i 0)]), (.agg [(.sl [[(i 1)]] false), (.sl [[(i 3)]] false)]), (.agg [(i 3), (i 0)]), (.v (.bool false))], nl), ([(.agg [x3, (i 0)]), (.agg [(.sl [[(i 1)]] false), (.sl [[(i 3)]] false)]), (.agg [(i 4), (i 0)]), (.v (.bool false))], nl), ([(.agg [x3, (i 0)]), (.agg [(.sl [[(i 1)]] false), (.sl [[(i 3)]] false)]), (.agg [(i 5), (i 0)]), (.v (.bool false))], nl), ([(.agg [x3, (i 0)]), (.agg [(.sl [[(i 1)]] false), (.sl [[(i 3)]] false)]), (.agg [(i 6), (i 0)]), (.v (.bool false))], nl), ([(.agg [x3, (i 0)]), (.agg [(.sl [[(i 1)]] false), (.sl [[(i 3)]] false)]), (.agg [(i 6), (i 1)]), (.v (.bool false))], nl), ([(.agg [x3, (i 0)]), (.agg [(.sl [[(i 1)]] false), (.sl [[(i 3)]] false)]), (.agg [(i 6), (i 2)]), (.v (.bool false))], nl), ([(.agg [x3, (i 0)]), (.agg [(.sl [[(i 1)]] false), (.sl [[(i 3)]] false)]), (.agg [(i 6), (i 3)]), (.v (.bool false))], nl), ([(.agg [x3, (i 0)]), (.agg [(.sl [[(i 1)]] false), (.sl [[(i 3)]] false)]), (.agg [(i 6), (i 4)]), (.v (.bool false))], nl), ([(.agg [x3, (i 0)]), (.agg [(.sl [[(i 1)]] false), (.sl [[(i 3)]] false)]), (.agg [(i 7), (i 0)]), (.v (.bool false))], nl), ([(.agg [x3, (i 0)]), (.agg [(.sl [[(i 1)]] false), (.sl [[(i 3)]] false)]), (.agg [(i 8), (i 0)]), (.v (.bool false))], x4), ([(.agg [x3, (i 0)]), (.agg [(.sl [[(i 1)]] false), (.sl [[(i 3)]] false)]), (.agg [(i 9), (i 0)]), (.v (.bool false))], nl), ([(.agg [x3, (i 0)]), (.agg [(.sl [[(i 1)]] false), (.sl [[(i 3)]] false)]), (.agg [(i 9), (i 1)]), (.v (.bool false))], nl), ([(.agg [x3, (i 0)]), (.agg [(.sl [[(i 1)]] false), (.sl [[(i 3)]] false)]), (.agg [(i 9), (i 2)]), (.v (.bool false))], nl), ([(.agg [x3, (i 0)]), (.agg [(.sl [[(i 1)]] false), (.sl [[(i 3)]] false)]), (.agg [(i 9), (i 3)]), (.v (.bool false))], nl), ([(.agg [x3, (i 0)]), (.agg [(.sl [[(i 1)]] false), (.sl [[(i 3)]] false)]), (.agg [(i 9), (i 4)]), (.v (.bool false))], nl), ([(.agg [x3, (i 0)]), (.agg [nl, nl]), (.agg [(i 1), (i 0)]), (.v (.bool false))], (.sl [[(i 1), (i 0), nl]] true)), ([(.agg [x3, (i 0)]), (.agg [nl, nl]), (.agg [(i 2), (i 0)]), (.v (.bool false))], (.sl [[(i 2), (i 0), nl]] true)), ([(.agg [x3, (i 0)]), (.agg [nl, nl]), (.agg [(i 3), (i 0)]), (.v (.bool false))], (.sl [[(i 3), (i 0), nl]] true)), ([(.agg [x3, (i 0)]), (.agg [nl, nl]), (.agg [(i 4), (i 0)]), (.v (.bool false))], (.sl [[(i 4), (i 0), nl]] true)), ([(.agg [x3, (i 0)]), (.agg [nl, nl]), (.agg [(i 5), (i 0)]), (.v (.bool false))], (.sl [[(i 5), (i 0), nl]] true)), ([(.agg [x3, (i 0)]), (.agg [nl, nl]), (.agg [(i 6), (i 0)]), (.v (.bool false))], (.sl [[(i 6), (i 0), nl]] true)), ([(.agg [x3, (i 0)]), (.agg [nl, nl]), (.agg [(i 6), (i 1)]), (.v (.bool false))], (.sl [[(i 6), (i 1), (.sl [[(.sl [[(.sl [[nl, nl, (.v (.bool false))]] false)]] true)]] true)]] false)), ([(.agg [x3, (i 0)]), (.agg [nl, nl]), (.agg [(i 6), (i 2)]), (.v (.bool false))], (.sl [[(i 6), (i 2), (.sl [[(.sl [[(.sl [[nl, nl, (.v (.bool false))], [nl, nl, (.v (.bool false))]] false)]] true)]] true)]] false)), ([(.agg [x3, (i 0)]), (.agg [nl, nl]), (.agg [(i 6), (i 3)]), (.v (.bool false))], (.sl [[(i 6), (i 3), (.sl [[(.sl [[(.sl [[nl, nl, (.v (.bool false))], [nl, nl, (.v (.bool false))], [nl, nl, (.v (.bool false))]] false)]] true)]] true)]] false)), ([(.agg [x3, (i 0)]), (.agg [nl, nl]), (.agg [(i 6), (i 4)]), (.v (.bool false))], x5), ([(.agg [x3, (i 0)]), (.agg [nl, nl]), (.agg [(i 7), (i 0)]), (.v (.bool false))], (.sl [[(i 7), (i 0), (.sl [[(.sl [[(.sl [[nl, nl, (.v (.bool false))], [nl, nl, (.v (.bool true))]] false)]] true)]] true)]] false)), ([(.agg [x3, (i 0)]), (.agg [nl, nl]), (.agg [(i 8), (i 0)]), (.v (.bool false))], (.sl [[(i 8), (i 0), (.sl [[(.sl [[nl]] true)]] true)]] false)), ([(.agg [x3, (i 0)]), (.agg [nl, nl]), (.agg [(i 9), (i 0)]), (.v (.bool false))], (.sl [[(i 9), (i 0), nl]] true)), ([(.agg [x3, (i 0)]), (.agg [nl, nl]), (.agg [(i 9), (i 1)]), (.v (.bool false))], (.sl [[(i 9), (i 1), nl]] true)), ([(.agg [x3, (i 0)]), (.agg [nl, nl]), (.agg [(i 9), (i 2)]), (.v (.bool false))], (.sl [[(i 9), (i 2), nl]] true)), ([(.agg [x3, (i 0)]), (.agg [nl, nl]), (.agg [(i 9), (i 3)]), (.v (.bool false))], (.sl [[(i 9), (i 3), nl]] true)), ([(.agg [x3, (i 0)]), (.agg [nl, nl]), (.agg [(i 9), (i 4)]), (.v (.bool false))], (.sl [[(i 9), (i 4), nl]] true)), ([(.agg [x3, (i 0)]), (.agg [nl, nl]), (.agg [(i 1), (i 0)]), (.v (.bool true))], nl), ([(.agg [x3, (i 0)]), (.agg [nl, nl]), (.agg [(i 2), (i 0)]), (.v (.bool true))], nl), ([(.agg [x3, (i 0)]), (.agg [nl, nl]), (.agg [(i 3), (i 0)]), (.v (.bool true))], nl), ([(.agg [x3, (i 0)]), (.agg [nl, nl]), (.agg [(i 4), (i 0)]), (.v (.bool true))], nl), ([(.agg [x3, (i 0)]), (.agg [nl, nl]), (.agg [(i 5), (i 0)]), (.v (.bool true))], (.sl [[(i 5), (i 0), nl]] true)), ([(.agg [x3, (i 0)]), (.agg [nl, nl]), (.agg [(i 6), (i 0)]), (.v (.bool true))], nl), ([(.agg [x3, (i 0)]), (.agg [nl, nl]), (.agg [(i 6), (i 1)]), (.v (.bool true))], nl), ([(.agg [x3, (i 0)]), (.agg [nl, nl]), (.agg [(i 6), (i 2)]), (.v (.bool true))], nl), ([(.agg [x3, (i 0)]), (.agg [nl, nl]), (.agg [(i 6), (i 3)]), (.v (.bool true))], nl), ([(.agg [x3, (i 0)]), (.agg [nl, nl]), (.agg [(i 6), (i 4)]), (.v (.bool true))], nl), ([(.agg [x3, (i 0)]), (.agg [nl, nl]), (.agg [(i 7), (i 0)]), (.v (.bool true))], (.sl [[(i 7), (i 0), (.sl [[(.sl [[(.sl [[nl, nl, (.v (.bool false))], [nl, nl, (.v (.bool true))]] false)]] true)]] true)]] false)), ([(.agg [x3, (i 0)]), (.agg [nl, nl]), (.agg [(i 8), (i 0)]), (.v (.bool true))], nl), ([(.agg [x3, (i 0)]), (.agg [nl, nl]), (.agg [(i 9), (i 0)]), (.v (.bool true))], nl), ([(.agg [x3, (i 0)]), (.agg [nl, nl]), (.agg [(i 9), (i 1)]), (.v (.bool true))], nl), ([(.agg [x3, (i 0)]), (.agg [nl, nl]), (.agg [(i 9), (i 2)]), (.v (.bool true))], nl), ([(.agg [x3, (i 0)]), (.agg [nl, nl]), (.agg [(i 9), (i 3)]), (.v (.bool true))], nl), ([(.agg [x3, (i 0)]), (.agg [nl, nl]), (.agg [(i 9), (i 4)]), (.v (.bool true))], nl)])]) ⟨⟨k45, trivial⟩, ⟨k46, k47, k48, k49, k50, k51, k52, k53, k54, k55, k56, k57, k58, k59, k60, k61, k62, k63, k64, k65, k66, k67, k68, k69, k70, k71, k72, k73, k74, k75, k76, k77, k78, k79, k80, k81, k82, k83, k84, k85, k86, k87, k88, k89, k90, k91, k92, k93, k94, k95, k96, trivial⟩, trivial⟩ e139ok (n := 100000) (by kernel_rfl)
theorem k98 [Env] : Known Tryz.prog 52 [(.agg [x2, (i 0)]), (.agg [(.sl [[(i 13), (i 0), (i 0), (sb []), nl, (.sl [[(i 0), (sb [97]), (i 1), (.v (.bool false))]] true), (i 1), (i 1)], [(i 2), (i 0), (i 0), (sb []), nl, nl, (i 0), (i 0)]] true), (i 0)])] (.v (.bool true)) :=
  known_ofF tOk mixed fnsAOk (B := [(41, [([(.agg [x2, (i 0)])], (i 0)), ([(.agg [(.sl [[(i 13), (i 0), (i 0), (sb []), nl, (.sl [[(i 0), (sb [97]), (i 1), (.v (.bool false))]] true), (i 1), (i 1)], [(i 2), (i 0), (i 0), (sb []), nl, nl, (i 0), (i 0)]] true), (i 0)])], (i 0))]), (139, [([(.agg [x3, (i 0)]), (.agg [(.sl [[(i 0)]] true), (.sl [[(i 3)]] true), (.v (.bool false))])], (i 0))])]) ⟨⟨k43, k44, trivial⟩, ⟨k97, trivial⟩, trivial⟩ e52ok (n := 100000) (by kernel_rfl)
theorem k99 [Env] : Known Tryz.prog 41 [(.agg [x6, (i 0)])] (i 0) :=
  known_ofF tOk mixed fnsAOk (B := []) trivial e41ok (n := 100000) (by kernel_rfl)
theorem k100 [Env] : Known Tryz.prog 215 [(.agg [x6, (i 0)]), (.agg [(.sl [[(i 0)]] false), (.sl [[(i 3)]] false)]), (.agg [(i 1), (i 0)]), (.v (.bool false))] nl :=
  known_ofF tOk mixed fnsAOk (B := []) trivial e215ok (n := 100000) (by kernel_rfl)
theorem k101 [Env] : Known Tryz.prog 215 [(.agg [x6, (i 0)]), (.agg [(.sl [[(i 0)]] false), (.sl [[(i 3)]] false)]), (.agg [(i 2), (i 0)]), (.v (.bool false))] nl :=
  known_ofF tOk mixed fnsAOk (B := []) trivial e215ok (n := 100000) (by kernel_rfl)
theorem k102 [Env] : Known Tryz.prog 215 [(.agg [x6, (i 0)]), (.agg [(.sl [[(i 0)]] false), (.sl [[(i 3)]] false)]), (.agg [(i 3), (i 0)]), (.v (.bool false))] nl :=
  known_ofF tOk mixed fnsAOk (B := []) trivial e215ok (n := 100000) (by kernel_rfl)
theorem k103 [Env] : Known Tryz.prog 215 [(.agg [x6, (i 0)]), (.agg [(.sl [[(i 0)]] false), (.sl [[(i 3)]] false)]), (.agg [(i 4), (i 0)]), (.v (.bool false))] nl :=
  known_ofF tOk mixed fnsAOk (B := []) trivial e215ok (n := 100000) (by kernel_rfl)
theorem k104 [Env] : Known Tryz.prog 215 [(.agg [x6, (i 0)]), (.agg [(.sl [[(i 0)]] false), (.sl [[(i 3)]] false)]), (.agg [(i 5), (i 0)]), (.v (.bool false))] nl :=
  known_ofF tOk mixed fnsAOk (B := []) trivial e215ok (n := 100000) (by kernel_rfl)
theorem k105 [Env] : Known Tryz.prog 215 [(.agg [x6, (i 0)]), (.agg [(.sl [[(i 0)]] false), (.sl [[(i 3)]] false)]), (.agg [(i 6), (i 0)]), (.v (.bool false))] nl :=
  known_ofF tOk mixed fnsAOk (B := []) trivial e215ok (n := 100000) (by kernel_rfl)
theorem k106 [Env] : Known Tryz.prog 215 [(.agg [x6, (i 0)]), (.agg [(.sl [[(i 0)]] false), (.sl [[(i 3)]] false)]), (.agg [(i 6), (i 1)]), (.v (.bool false))] nl :=
  known_ofF tOk mixed fnsAOk (B := []) trivial e215ok (n := 100000) (by kernel_rfl)
theorem k107 [Env] : Known Tryz.prog 215 [(.agg [x6, (i 0)]), (.agg [(.sl [[(i 0)]] false), (.sl [[(i 3)]] false)]), (.agg [(i 6), (i 2)]), (.v (.bool false))] nl :=
  known_ofF tOk mixed fnsAOk (B := []) trivial e215ok (n := 100000) (by kernel_rfl)
theorem k108 [Env] : Known Tryz.prog 215 [(.agg [x6, (i 0)]), (.agg [(.sl [[(i 0)]] false), (.sl [[(i 3)]] false)]), (.agg [(i 6), (i 3)]), (.v (.bool false))] nl :=
  known_ofF tOk mixed fnsAOk (B := []) trivial e215ok (n := 100000) (by kernel_rfl)
theorem k109 [Env] : Known Tryz.prog 215 [(.agg [x6, (i 0)]), (.agg [(.sl [[(i 0)]] false), (.sl [[(i 3)]] false)]), (.agg [(i 6), (i 4)]), (.v (.bool false))] nl :=
  known_ofF tOk mixed fnsAOk (B := []) trivial e215ok (n := 100000) (by kernel_rfl)
theorem k110 [Env] : Known Tryz.prog 215 [(.agg [x6, (i 0)]), (.agg [(.sl [[(i 0)]] false), (.sl [[(i 3)]] false)]), (.agg [(i 7), (i 0)]), (.v (.bool false))] nl :=
  known_ofF tOk mixed fnsAOk (B := []) trivial e215ok (n := 100000) (by kernel_rfl)
theorem k111 [Env] : Known Tryz.prog 215 [(.agg [x6, (i 0)]), (.agg [(.sl [[(i 0)]] false), (.sl [[(i 3)]] false)]), (.agg [(i 8), (i 0)]), (.v (.bool false))] x7 :=
  known_ofF tOk mixed fnsAOk (B := []) trivial e215ok (n := 100000) (by kernel_rfl)
theorem k112 [Env] : Known Tryz.prog 215 [(.agg [x6, (i 0)]), (.agg [(.sl [[(i 0)]] false), (.sl [[(i 3)]] false)]), (.agg [(i 9), (i 0)]), (.v (.bool false))] nl :=
  known_ofF tOk mixed fnsAOk (B := []) trivial e215ok (n := 100000) (by kernel_rfl)
theorem k113 [Env] : Known Tryz.prog 215 [(.agg [x6, (i 0)]), (.agg [(.sl [[(i 0)]] false), (.sl [[(i 3)]] false)]), (.agg [(i 9), (i 1)]), (.v (.bool false))] nl :=
  known_ofF tOk mixed fnsAOk (B := []) trivial e215ok (n := 100000) (by kernel_rfl)
theorem k114 [Env] : Known Tryz.prog 215 [(.agg [x6, (i 0)]), (.agg [(.sl [[(i 0)]] false), (.sl [[(i 3)]] false)]), (.agg [(i 9), (i 2)]), (.v (.bool false))] nl :=
  known_ofF tOk mixed fnsAOk (B := []) trivial e215ok (n := 100000) (by kernel_rfl)
theorem k115 [Env] : Known Tryz.prog 215 [(.agg [x6, (i 0)]), (.agg [(.sl [[(i 0)]] false), (.sl [[(i 3)]] false)]), (.agg [(i 9), (i 3)]), (.v (.bool false))] nl :=
  known_ofF tOk mixed fnsAOk (B := []) trivial e215ok (n := 100000) (by kernel_rfl)
theorem k116 [Env] : Known Tryz.prog 215 [(.agg [x6, (i 0)]), (.agg [(.sl [[(i 0)]] false), (.sl [[(i 3)]] false)]), (.agg [(i 9), (i 4)]), (.v (.bool false))] nl :=
  known_ofF tOk mixed fnsAOk (B := []) trivial e215ok (n := 100000) (by kernel_rfl)
theorem k117 [Env] : Known Tryz.prog 215 [(.agg [x6, (i 0)]), (.agg [nl, nl]), (.agg [(i 1), (i 0)]), (.v (.bool false))] (.sl [[(i 1), (i 0), nl]] true) :=
  known_ofF tOk mixed fnsAOk (B := []) trivial e215ok (n := 100000) (by kernel_rfl)
theorem k118 [Env] : Known Tryz.prog 215 [(.agg [x6, (i 0)]), (.agg [nl, nl]), (.agg [(i 2), (i 0)]), (.v (.bool false))] (.sl [[(i 2), (i 0), nl]] true) :=
  known_ofF tOk mixed fnsAOk (B := []) trivial e215ok (n := 100000) (by kernel_rfl)
theorem k119 [Env] : Known Tryz.prog 215 [(.agg [x6, (i 0)]), (.agg [nl, nl]), (.agg [(i 3), (i 0)]), (.v (.bool false))] (.sl [[(i 3), (i 0), nl]] true) :=
  known_ofF tOk mixed fnsAOk (B := []) trivial e215ok (n := 100000) (by kernel_rfl)
theorem k120 [Env] : Known Tryz.prog 215 [(.agg [x6, (i 0)]), (.agg [nl, nl]), (.agg [(i 4), (i 0)]), (.v (.bool false))] (.sl [[(i 4), (i 0), nl]] true) :=
  known_ofF tOk mixed fnsAOk (B := []) trivial e215ok (n := 100000) (by kernel_rfl)
theorem k121 [Env] : Known Tryz.prog 215 [(.agg [x6, (i 0)]), (.agg [nl, nl]), (.agg [(i 5), (i 0)]), (.v (.bool false))] (.sl [[(i 5), (i 0), nl]] true) :=
  known_ofF tOk mixed fnsAOk (B := []) trivial e215ok (n := 100000) (by kernel_rfl)
theorem k122 [Env] : Known Tryz.prog 215 [(.agg [x6, (i 0)]), (.agg [nl, nl]), (.agg [(i 6), (i 0)]), (.v (.bool false))] (.sl [[(i 6), (i 0), nl]] true) :=
  known_ofF tOk mixed fnsAOk (B := []) trivial e215ok (n := 100000) (by kernel_rfl)
theorem k123 [Env] : Known Tryz.prog 215 [(.agg [x6, (i 0)]), (.agg [nl, nl]), (.agg [(i 6), (i 1)]), (.v (.bool false))] (.sl [[(i 6), (i 1), (.sl [[(.sl [[(.sl [[nl, nl, (.v (.bool false))]] false)]] true)]] true)]] false) :=
  known_ofF tOk mixed fnsAOk (B := []) trivial e215ok (n := 100000) (by kernel_rfl)
theorem k124 [Env] : Known Tryz.prog 215 [(.agg [x6, (i 0)]), (.agg [nl, nl]), (.agg [(i 6), (i 2)]), (.v (.bool false))] (.sl [[(i 6), (i 2), (.sl [[(.sl [[(.sl [[nl, nl, (.v (.bool false))], [nl, nl, (.v (.bool false))]] false)]] true)]] true)]] false) :=
  known_ofF tOk mixed fnsAOk (B := []) trivial e215ok (n := 100000) (by kernel_rfl)
theorem k125 [Env] : Known Tryz.prog 215 [(.agg [x6, (i 0)]), (.agg [nl, nl]), (.agg [(i 6), (i 3)]), (.v (.bool false))] (.sl [[(i 6), (i 3), (.sl [[(.sl [[(.sl [[nl, nl, (.v (.bool false))], [nl, nl, (.v (.bool false))], [nl, nl, (.v (.bool false))]] false)]] true)]] true)]] false) :=
  known_ofF tOk mixed fnsAOk (B := []) trivial e215ok (n := 100000) (by kernel_rfl)
theorem k126 [Env] : Known Tryz.prog 215 [(.agg [x6, (i 0)]), (.agg [nl, nl]), (.agg [(i 6), (i 4)]), (.v (.bool false))] x5 :=
  known_ofF tOk mixed fnsAOk (B := []) trivial e215ok (n := 100000) (by kernel_rfl)
theorem k127 [Env] : Known Tryz.prog 215 [(.agg [x6, (i 0)]), (.agg [nl, nl]), (.agg [(i 7), (i 0)]), (.v (.bool false))] (.sl [[(i 7), (i 0), (.sl [[(.sl [[(.sl [[nl, nl, (.v (.bool false))], [nl, nl, (.v (.bool true))]] false)]] true)]] true)]] false) :=
  known_ofF tOk mixed fnsAOk (B := []) trivial e215ok (n := 100000) (by kernel_rfl)
theorem k128 [Env] : Known Tryz.prog 215 [(.agg [x6, (i 0)]), (.agg [nl, nl]), (.agg [(i 8), (i 0)]), (.v (.bool false))] (.sl [[(i 8), (i 0), (.sl [[(.sl [[nl]] true)]] true)]] false) :=
  known_ofF tOk mixed fnsAOk (B := []) trivial e215ok (n := 100000) (by kernel_rfl)
theorem k129 [Env] : Known Tryz.prog 215 [(.agg [x6, (i 0)]), (.agg [nl, nl]), (.agg [(i 9), (i 0)]), (.v (.bool false))] (.sl [[(i 9), (i 0), nl]] true) :=
  known_ofF tOk mixed fnsAOk (B := []) trivial e215ok (n := 100000) (by kernel_rfl)
theorem k130 [Env] : Known Tryz.prog 215 [(.agg [x6, (i 0)]), (.agg [nl, nl]), (.agg [(i 9), (i 1)]), (.v (.bool false))] (.sl [[(i 9), (i 1), nl]] true) :=
  known_ofF tOk mixed fnsAOk (B := []) trivial e215ok (n := 100000) (by kernel_rfl)
theorem k131 [Env] : Known Tryz.prog 215 [(.agg [x6, (i 0)]), (.agg [nl, nl]), (.agg [(i 9), (i 2)]), (.v (.bool false))] (.sl [[(i 9), (i 2), nl]] true) :=
  known_ofF tOk mixed fnsAOk (B := []) trivial e215ok (n := 100000) (by kernel_rfl)
theorem k132 [Env] : Known Tryz.prog 215 [(.agg [x6, (i 0)]), (.agg [nl, nl]), (.agg [(i 9), (i 3)]), (.v (.bool false))] (.sl [[(i 9), (i 3), nl]] true) :=
  known_ofF tOk mixed fnsAOk (B := []) trivial e215ok (n := 100000) (by kernel_rfl)
theorem k133 [Env] : Known Tryz.prog 215 [(.agg [x6, (i 0)]), (.agg [nl, nl]), (.agg [(i 9), (i 4)]), (.v (.bool false))] (.sl [[(i 9), (i 4), nl]] true) :=
  known_ofF tOk mixed fnsAOk (B := []) trivial e215ok (n := 100000) (by kernel_rfl)
theorem k134 [Env] : Known Tryz.prog 215 [(.agg [x6, (i 0)]), (.agg [nl, nl]), (.agg [(i 1), (i 0)]), (.v (.bool true))] nl :=
  known_ofF tOk mixed fnsAOk (B := []) trivial e215ok (n := 100000) (by kernel_rfl)
theorem k135 [Env] : Known Tryz.prog 215 [(.agg [x6, (i 0)]), (.agg [nl, nl]), (.agg [(i 2), (i 0)]), (.v (.bool true))] nl :=
  known_ofF tOk mixed fnsAOk (B := []) trivial e215ok (n := 100000) (by kernel_rfl)
theorem k136 [Env] : Known Tryz.prog 215 [(.agg [x6, (i 0)]), (.agg [nl, nl]), (.agg [(i 3), (i 0)]), (.v (.bool true))] nl :=
  known_ofF tOk mixed fnsAOk (B := []) trivial e215ok (n := 100000) (by kernel_rfl)
theorem k137 [Env] : Known Tryz.prog 215 [(.agg [x6, (i 0)]), (.agg [nl, nl]), (.agg [(i 4), (i 0)]), (.v (.bool true))] nl :=
  known_ofF tOk mixed fnsAOk (B := []) trivial e215ok (n := 100000) (by kernel_rfl)
theorem k138 [Env] : Known Tryz.prog 215 [(.agg [x6, (i 0)]), (.agg [nl, nl]), (.agg [(i 5), (i 0)]), (.v (.bool true))] (.sl [[(i 5), (i 0), nl]] true) :=
  known_ofF tOk mixed fnsAOk (B := []) trivial e215ok (n := 100000) (by kernel_rfl)
theorem k139 [Env] : Known Tryz.prog 215 [(.agg [x6, (i 0)]), (.agg [nl, nl]), (.agg [(i 6), (i 0)]), (.v (.bool true))] nl :=
  known_ofF tOk mixed fnsAOk (B := []) trivial e215ok (n := 100000) (by kernel_rfl)
theorem k140 [Env] : Known Tryz.prog 215 [(.agg [x6, (i 0)]), (.agg [nl, nl]), (.agg [(i 6), (i 1)]), (.v (.bool true))] nl :=
  known_ofF tOk mixed fnsAOk (B := []) trivial e215ok (n := 100000) (by kernel_rfl)
theorem k141 [Env] : Known Tryz.prog 215 [(.agg [x6, (i 0)]), (.agg [nl, nl]), (.agg [(i 6), (i 2)]), (.v (.bool true))] nl :=
  known_ofF tOk mixed fnsAOk (B := []) trivial e215ok (n := 100000) (by kernel_rfl)
theorem k142 [Env] : Known Tryz.prog 215 [(.agg [x6, (i 0)]), (.agg [nl, nl]), (.agg [(i 6), (i 3)]), (.v (.bool true))] nl :=
  known_ofF tOk mixed fnsAOk (B := []) trivial e215ok (n := 100000) (by kernel_rfl)
theorem k143 [Env] : Known Tryz.prog 215 [(.agg [x6, (i 0)]), (.agg [nl, nl]), (.agg [(i 6), (i 4)]), (.v (.bool true))] nl :=
  known_ofF tOk mixed fnsAOk (B := []) trivial e215ok (n := 100000) (by kernel_rfl)
theorem k144 [Env] : Known Tryz.prog 215 [(.agg [x6, (i 0)]), (.agg [nl, nl]), (.agg [(i 7), (i 0)]), (.v (.bool true))] (.sl [[(i 7), (i 0), (.sl [[(.sl [[(.sl [[nl, nl, (.v (.bool false))], [nl, nl, (.v (.bool true))]] false)]] true)]] true)]] false) :=
  known_ofF tOk mixed fnsAOk (B := []) trivial e215ok (n := 100000) (by kernel_rfl)
theorem k145 [Env] : Known Tryz.prog 215 [(.agg [x6, (i 0)]), (.agg [nl, nl]), (.agg [(i 8), (i 0)]), (.v (.bool true))] nl :=
  known_ofF tOk mixed fnsAOk (B := []) trivial e215ok (n := 100000) (by kernel_rfl)
theorem k146 [Env] : Known Tryz.prog 215 [(.agg [x6, (i 0)]), (.agg [nl, nl]), (.agg [(i 9), (i 0)]), (.v (.bool true))] nl :=
  known_ofF tOk mixed fnsAOk (B := []) trivial e215ok (n := 100000) (by kernel_rfl)
theorem k147 [Env] : Known Tryz.prog 215 [(.agg [x6, (i 0)]), (.agg [nl, nl]), (.agg [(i 9), (i 1)]), (.v (.bool true))] nl :=
  known_ofF tOk mixed fnsAOk (B := []) trivial e215ok (n := 100000) (by kernel_rfl)
theorem k148 [Env] : Known Tryz.prog 215 [(.agg [x6, (i 0)]), (.agg [nl, nl]), (.agg [(i 9), (i 2)]), (.v (.bool true))] nl :=
  known_ofF tOk mixed fnsAOk (B := []) trivial e215ok (n := 100000) (by kernel_rfl)
theorem k149 [Env] : Known Tryz.prog 215 [(.agg [x6, (i 0)]), (.agg [nl, nl]), (.agg [(i 9), (i 3)]), (.v (.bool true))] nl :=
  known_ofF tOk mixed fnsAOk (B := []) trivial e215ok (n := 100000) (by kernel_rfl)
theorem k150 [Env] : Known Tryz.prog 215 [(.agg [x6, (i 0)]), (.agg [nl, nl]), (.agg [(i 9), (i 4)]), (.v (.bool true))] nl :=
  known_ofF tOk mixed fnsAOk (B := []) trivial e215ok (n := 100000) (by kernel_rfl)
theorem k151 [Env] : Known Tryz.prog 139 [(.agg [x6, (i 0)]), (.agg [(.sl [[(i 0)]] true), (.sl [[(i 2)]] true), (.v (.bool false))])] (i 0) :=
  known_ofF tOk mixed fnsAOk (B := [(41, [([(.agg [x6, (i 0)])], (i 0))]), (215, [([(.agg [x6, (i 0)]), (.agg [(.sl [[(i 0)]] false), (.sl [[(i 3)]] false)]), (.agg [(i 1), (i 0)]), (.v (.bool false))], nl), ([(.agg [x6, (i 0)]), (.agg [(.sl [[(i 0)]] false), (.sl [[(i 3)]] false)]), (.agg [(i 2), (i 0)]), (.v (.bool false))], nl), ([(.agg [x6, (i 0)]), (.agg [(.sl [[(i 0)]] false), (.sl [[(i 3)]] false)]), (.agg [(i 3), (i 0)]), (.v (.bool false))], nl), ([(.agg [x6, (i 0)]), (.agg [(.sl [[(i 0)]] false), (.sl [[(i 3)]] false)]), (.agg [(i 4), (i 0)]), (.v (.bool false))], nl), ([(.agg [x6, (i 0)]), (.agg [(.sl [[(i 0)]] false), (.sl [[(i 3)]] false)]), (.agg [(i 5), (i 0)]), (.v (.bool false))], nl), ([(.agg [x6, (i 0)]), (.agg [(.sl [[(i 0)]] false), (.sl [[(i 3)]] false)]), (.agg [(i 6), (i 0)]), (.v (.bool false))], nl), ([(.agg [x6, (i 0)]), (.agg [(.sl [[(i 0)]] false), (.sl [[(i 3)]] false)]), (.agg [(i 6), (i 1)]), (.v (.bool false))], nl), ([(.agg [x6, (i 0)]), (.agg [(.sl [[(i 0)]] false), (.sl [[(i 3)]] false)]), (.agg [(i 6), (i 2)]), (.v (.bool false))], nl), ([(.agg [x6, (i 0)]), (.agg [(.sl [[(i 0)]] false), (.sl [[(i 3)]] false)]), (.agg [(i 6), (i 3)]), (.v (.bool false))], nl), ([(.agg [x6, (i 0)]), (.agg [(.sl [[(i 0)]] false), (.sl [[(i 3)]] false)]), (.agg [(i 6), (i 4)]), (.v (.bool false))], nl), ([(.agg [x6, (i 0)]), (.agg [(.sl [[(i 0)]] false), (.sl [[(i 3)]] false)]), (.agg [(i 7), (i 0)]), (.v (.bool false))], nl), ([(.agg [x6, (i 0)]), (.agg [(.sl [[(i 0)]] false), (.sl [[(i 3)]] false)]), (.agg [(i 8), (i 0)]), (.v (.bool false))], x7), ([(.agg [x6, (i 0)]), (.agg [(.sl [[(i 0)]] false), (.sl [[(i 3)]] false)]), (.agg [(i 9), (i 0)]), (.v (.bool false))], nl), ([(.agg [x6, (i 0)]), (.agg [(.sl [[(i 0)]] false), (.sl [[(i 3)]] false)]), (.agg [(i 9), (i 1)]), (.v (.bool false))], nl), ([(.agg [x6, (i 0)]), (.agg [(.sl [[(i 0)]] false), (.sl [[(i 3)]] false)]), (.agg [(i 9), (i 2)]), (.v (.bool false))], nl), ([(.agg [x6, (i 0)]), (.agg [(.sl [[(i 0)]] false), (.sl [[(i 3)]] false)]), (.agg [(i 9), (i 3)]), (.v (.bool false))], nl), ([(.agg [x6, (i 0)]), (.agg [(.sl [[(i 0)]] false), (.sl [[(i 3)]] false)]), (.agg [(i 9), (i 4)]), (.v (.bool false))], nl), ([(.agg [x6, (i 0)]), (.agg [nl, nl]), (.agg [(i 1), (i 0)]), (.v (.bool false))], (.sl [[(i 1), (i 0), nl]] true)), ([(.agg [x6, (i 0)]), (.agg [nl, nl]), (.agg [(i 2), (i 0)]), (.v (.bool false))], (.sl [[(i 2), (i 0), nl]] true)), ([(.agg [x6, (i 0)]), (.agg [nl, nl]), (.agg [(i 3), (i 0)]), (.v (.bool false))], (.sl [[(i 3), (i 0), nl]] true)), ([(.agg [x6, (i 0)]), (.agg [nl, nl]), (.agg [(i 4), (i 0)]), (.v (.bool false))], (.sl [[(i 4), (i 0), nl]] true)), ([(.agg [x6, (i 0)]), (.agg [nl, nl]), (.agg [(i 5), (i 0)]), (.v (.bool false))], (.sl [[(i 5), (i 0), nl]] true)), ([(.agg [x6, (i 0)]), (.agg [nl, nl]), (.agg [(i 6), (i 0)]), (.v (.bool false))], (.sl [[(i 6), (i 0), nl]] true)), ([(.agg [x6, (i 0)]), (.agg [nl, nl]), (.agg [(i 6), (i 1)]), (.v (.bool false))], (.sl [[(i 6), (i 1), (.sl [[(.sl [[(.sl [[nl, nl, (.v (.bool false))]] false)]] true)]] true)]] false)), ([(.agg [x6, (i 0)]), (.agg [nl, nl]), (.agg [(i 6), (i 2)]), (.v (.bool false))], (.sl [[(i 6), (i 2), (.sl [[(.sl [[(.sl [[nl, nl, (.v (.bool false))], [nl, nl, (.v (.bool false))]] false)]] true)]] true)]] false)), ([(.agg [x6, (i 0)]), (.agg [nl, nl]), (.agg [(i 6), (i 3)]), (.v (.bool false))], (.sl [[(i 6), (i 3), (.sl [[(.sl [[(.sl [[nl, nl, (.v (.bool false))], [nl, nl, (.v (.bool false))], [nl, nl, (.v (.bool false))]] false)]] true)]] true)]] false)), ([(.agg [x6, (i 0)]), (.agg [nl, nl]), (.agg [(i 6), (i 4)]), (.v (.bool false))], x5), ([(.agg [x6, (i 0)]), (.agg [nl, nl]), (.agg [(i 7), (i 0)]), (.v (.bool false))], (.sl [[(i 7), (i 0), (.sl [[(.sl [[(.sl [[nl, nl, (.v (.bool false))], [nl, nl, (.v (.bool true))]] false)]] true)]] true)]] false)), ([(.agg [x6, (i 0)]), (.agg [nl, nl]), (.agg [(i 8), (i 0)]), (.v (.bool false))], (.sl [[(i 8), (i 0), (.sl [[(.sl [[nl]] true)]] true)]] false)), ([(.agg [x6, (i 0)]), (.agg [nl, nl]), (.agg [(i 9), (i 0)]), (.v (.bool false))], (.sl [[(i 9), (i 0), nl]] true)), ([(.agg [x6, (i 0)]), (.agg [nl, nl]), (.agg [(i 9), (i 1)]), (.v (.bool false))], (.sl [[(i 9), (i 1), nl]] true)), ([(.agg [x6, (i 0)]), (.agg [nl, nl]), (.agg [(i 9), (i 2)]), (.v (.bool false))], (.sl [[(i 9), (i 2), nl]] true)), ([(.agg [x6, (i 0)]), (.agg [nl, nl]), (.agg [(i 9), (i 3)]), (.v (.bool false))], (.sl [[(i 9), (i 3), nl]] true)), ([(.agg [x6, (i 0)]), (.agg [nl, nl]), (.agg [(i 9), (i 4)]), (.v (.bool false))], (.sl [[(i 9), (i 4), nl]] true)), ([(.agg [x6, (i 0)]), (.agg [nl, nl]), (.agg [(i 1), (i 0)]), (.v (.bool true))], nl), ([(.agg [x6, (i 0)]), (.agg [nl, nl]), (.agg [(i 2), (i 0)]), (.v (.bool true))], nl), ([(.agg [x6, (i 0)]), (.agg [nl, nl]), (.agg [(i 3), (i 0)]), (.v (.bool true))], nl), ([(.agg [x6, (i 0)]), (.agg [nl, nl]), (.agg [(i 4), (i 0)]), (.v (.bool true))], nl), ([(.agg [x6, (i 0)]), (.agg [nl, nl]), (.agg [(i 5), (i 0)]), (.v (.bool true))], (.sl [[(i 5), (i 0), nl]] true)), ([(.agg [x6, (i 0)]), (.agg [nl, nl]), (.agg [(i 6), (i 0)]), (.v (.bool true))], nl), ([(.agg [x6, (i 0)]), (.agg [nl, nl]), (.agg [(i 6), (i 1)]), (.v (.bool true))], nl), ([(.agg [x6, (i 0)]), (.agg [nl, nl]), (.agg [(i 6), (i 2)]), (.v (.bool true))], nl), ([(.agg [x6, (i 0)]), (.agg [nl, nl]), (.agg [(i 6), (i 3)]), (.v (.bool true))], nl), ([(.agg [x6, (i 0)]), (.agg [nl, nl]), (.agg [(i 6), (i 4)]), (.v (.bool true))], nl), ([(.agg [x6, (i 0)]), (.agg [nl, nl]), (.agg [(i 7), (i 0)]), (.v (.bool true))], (.sl [[(i 7), (i 0), (.sl [[(.sl [[(.sl [[nl, nl, (.v (.bool false))], [nl, nl, (.v (.bool true))]] false)]] true)]] true)]] false)), ([(.agg [x6, (i 0)]), (.agg [nl, nl]), (.agg [(i 8), (i 0)]), (.v (.bool true))], nl), ([(.agg [x6, (i 0)]), (.agg [nl, nl]), (.agg [(i 9), (i 0)]), (.v (.bool true))], nl), ([(.agg [x6, (i 0)]), (.agg [nl, nl]), (.agg [(i 9), (i 1)]), (.v (.bool true))], nl), ([(.agg [x6, (i 0)]), (.agg [nl, nl]), (.agg [(i 9), (i 2)]), (.v (.bool true))], nl), ([(.agg [x6, (i 0)]), (.agg [nl, nl]), (.agg [(i 9), (i 3)]), (.v (.bool true))], nl), ([(.agg [x6, (i 0)]), (.agg [nl, nl]), (.agg [(i 9), (i 4)]), (.v (.bool true))], nl)])]) ⟨⟨k99, trivial⟩, ⟨k100, k101, k102, k103, k104, k105, k106, k107, k108, k109, k110, k111, k112, k113, k114, k115, k116, k117, k118, k119, k120, k121, k122, k123, k124, k125, k126, k127, k128, k129, k130, k131, k132, k133, k134, k135, k136, k137, k138, k139, k140, k141, k142, k143, k144, k145, k146, k147, k148, k149, k150, trivial⟩, trivial⟩ e139ok (n := 100000) (by kernel_rfl)
end Go.Ev
