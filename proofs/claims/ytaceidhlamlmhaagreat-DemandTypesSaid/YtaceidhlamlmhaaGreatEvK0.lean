/- Calls that are known, by running them. -/
import Derived.Test.YtaceidhlamlmhaaGreatEvVal
set_option linter.all false
namespace Go.Ev
open Go.Proofs
theorem k0 [Env] : Known Tryz.prog 6 [] (.agg [(.sl [[(i 3), (j 9223372036854775807), (i 9223372036854775807), (sb []), nl, nl, (i 0), (i 0)]] true), (i 0)]) :=
  known_ofF tOk mixed fnsOk (B := []) trivial e6ok (n := 100000) (by kernel_rfl)
theorem k1 [Env] : Known Tryz.prog 7 [] (.agg [(.sl [[(i 3), (j 9223372036854775807), (i 9223372036854775807), (sb []), nl, nl, (i 0), (i 0)]] true), (i 0)]) :=
  known_ofF tOk mixed fnsOk (B := []) trivial e7ok (n := 100000) (by kernel_rfl)
theorem k2 [Env] : Known Tryz.prog 95 [(.agg [(.sl [[(i 3), (j 9223372036854775807), (i 9223372036854775807), (sb []), nl, nl, (i 0), (i 0)]] true), (i 0)])] (i 0) :=
  known_ofF tOk mixed fnsOk (B := []) trivial e95ok (n := 100000) (by kernel_rfl)
theorem k3 [Env] : Known Tryz.prog 95 [(.agg [(.sl [[(i 3), (j 9223372036854775807), (i 9223372036854775807), (sb []), nl, nl, (i 0), (i 0)], [(i 3), (j 9223372036854775807), (i 9223372036854775807), (sb []), nl, nl, (i 0), (i 0)]] false), (i 0)])] (i 0) :=
  known_ofF tOk mixed fnsOk (B := []) trivial e95ok (n := 100000) (by kernel_rfl)
theorem k4 [Env] : Known Tryz.prog 143 [(.agg [(.sl [[(i 3), (j 9223372036854775807), (i 9223372036854775807), (sb []), nl, nl, (i 0), (i 0)], [(i 3), (j 9223372036854775807), (i 9223372036854775807), (sb []), nl, nl, (i 0), (i 0)]] false), (i 0)]), (.agg [(.sl [[(i 0)]] false), (.sl [[(i 1)]] false), (.v (.bool false))])] nl :=
  known_ofF tOk mixed fnsOk (B := []) trivial e143ok (n := 100000) (by kernel_rfl)
theorem k5 [Env] : Known Tryz.prog 60 [(.agg [(.sl [[(i 3), (j 9223372036854775807), (i 9223372036854775807), (sb []), nl, nl, (i 0), (i 0)], [(i 3), (j 9223372036854775807), (i 9223372036854775807), (sb []), nl, nl, (i 0), (i 0)]] false), (i 0)]), (.agg [(.sl [[(i 0)]] true), (.sl [[(i 1)]] true), (.v (.bool false))])] (i 0) :=
  known_ofF tOk mixed fnsOk (B := [(95, [([(.agg [(.sl [[(i 3), (j 9223372036854775807), (i 9223372036854775807), (sb []), nl, nl, (i 0), (i 0)], [(i 3), (j 9223372036854775807), (i 9223372036854775807), (sb []), nl, nl, (i 0), (i 0)]] false), (i 0)])], (i 0))]), (143, [([(.agg [(.sl [[(i 3), (j 9223372036854775807), (i 9223372036854775807), (sb []), nl, nl, (i 0), (i 0)], [(i 3), (j 9223372036854775807), (i 9223372036854775807), (sb []), nl, nl, (i 0), (i 0)]] false), (i 0)]), (.agg [(.sl [[(i 0)]] false), (.sl [[(i 1)]] false), (.v (.bool false))])], nl)])]) ⟨⟨k3, trivial⟩, ⟨k4, trivial⟩, trivial⟩ e60ok (n := 100000) (by kernel_rfl)
theorem k6 [Env] : Known Tryz.prog 28 [(.agg [(.sl [[(i 3), (j 9223372036854775807), (i 9223372036854775807), (sb []), nl, nl, (i 0), (i 0)]] true), (i 0)]), (.agg [(.sl [[(i 3), (j 9223372036854775807), (i 9223372036854775807), (sb []), nl, nl, (i 0), (i 0)]] true), (i 0)])] (.v (.bool true)) :=
  known_ofF tOk mixed fnsOk (B := [(95, [([(.agg [(.sl [[(i 3), (j 9223372036854775807), (i 9223372036854775807), (sb []), nl, nl, (i 0), (i 0)]] true), (i 0)])], (i 0))]), (60, [([(.agg [(.sl [[(i 3), (j 9223372036854775807), (i 9223372036854775807), (sb []), nl, nl, (i 0), (i 0)], [(i 3), (j 9223372036854775807), (i 9223372036854775807), (sb []), nl, nl, (i 0), (i 0)]] false), (i 0)]), (.agg [(.sl [[(i 0)]] true), (.sl [[(i 1)]] true), (.v (.bool false))])], (i 0))])]) ⟨⟨k2, trivial⟩, ⟨k5, trivial⟩, trivial⟩ e28ok (n := 100000) (by kernel_rfl)
theorem k7 [Env] : Known Tryz.prog 5 [(.agg [(.sl [[(i 3), (j 9223372036854775807), (i 9223372036854775807), (sb []), nl, nl, (i 0), (i 0)]] true), (i 0)]), (.agg [(.sl [[(i 3), (j 9223372036854775807), (i 9223372036854775807), (sb []), nl, nl, (i 0), (i 0)]] true), (i 0)])] (.v (.bool true)) :=
  known_ofF tOk mixed fnsOk (B := [(28, [([(.agg [(.sl [[(i 3), (j 9223372036854775807), (i 9223372036854775807), (sb []), nl, nl, (i 0), (i 0)]] true), (i 0)]), (.agg [(.sl [[(i 3), (j 9223372036854775807), (i 9223372036854775807), (sb []), nl, nl, (i 0), (i 0)]] true), (i 0)])], (.v (.bool true)))])]) ⟨⟨k6, trivial⟩, trivial⟩ e5ok (n := 100000) (by kernel_rfl)
theorem k8 [Env] : Known Tryz.prog 8 [] (.agg [x0, (i 0)]) :=
  known_ofF tOk mixed fnsOk (B := []) trivial e8ok (n := 100000) (by kernel_rfl)
theorem k9 [Env] : Known Tryz.prog 9 [] (.agg [x1, (i 0)]) :=
  known_ofF tOk mixed fnsOk (B := []) trivial e9ok (n := 100000) (by kernel_rfl)
theorem k10 [Env] : Known Tryz.prog 95 [(.agg [x0, (i 0)])] (i 0) :=
  known_ofF tOk mixed fnsOk (B := []) trivial e95ok (n := 100000) (by kernel_rfl)
theorem k11 [Env] : Known Tryz.prog 95 [(.agg [x1, (i 0)])] (i 0) :=
  known_ofF tOk mixed fnsOk (B := []) trivial e95ok (n := 100000) (by kernel_rfl)
theorem k12 [Env] : Known Tryz.prog 95 [(.agg [x2, (i 0)])] (i 0) :=
  known_ofF tOk mixed fnsOk (B := []) trivial e95ok (n := 100000) (by kernel_rfl)
theorem k13 [Env] : Known Tryz.prog 143 [(.agg [x2, (i 0)]), (.agg [(.sl [[(i 0)]] false), (.sl [[(i 3)]] false), (.v (.bool false))])] nl :=
  known_ofF tOk mixed fnsOk (B := []) trivial e143ok (n := 100000) (by kernel_rfl)
theorem k14 [Env] : Known Tryz.prog 60 [(.agg [x2, (i 0)]), (.agg [(.sl [[(i 0)]] true), (.sl [[(i 3)]] true), (.v (.bool false))])] (i 0) :=
  known_ofF tOk mixed fnsOk (B := [(95, [([(.agg [x2, (i 0)])], (i 0))]), (143, [([(.agg [x2, (i 0)]), (.agg [(.sl [[(i 0)]] false), (.sl [[(i 3)]] false), (.v (.bool false))])], nl)])]) ⟨⟨k12, trivial⟩, ⟨k13, trivial⟩, trivial⟩ e60ok (n := 100000) (by kernel_rfl)
theorem k15 [Env] : Known Tryz.prog 28 [(.agg [x0, (i 0)]), (.agg [x1, (i 0)])] (.v (.bool true)) :=
  known_ofF tOk mixed fnsOk (B := [(95, [([(.agg [x0, (i 0)])], (i 0)), ([(.agg [x1, (i 0)])], (i 0))]), (60, [([(.agg [x2, (i 0)]), (.agg [(.sl [[(i 0)]] true), (.sl [[(i 3)]] true), (.v (.bool false))])], (i 0))])]) ⟨⟨k10, k11, trivial⟩, ⟨k14, trivial⟩, trivial⟩ e28ok (n := 100000) (by kernel_rfl)
theorem k16 [Env] : Known Tryz.prog 95 [(.agg [x3, (i 0)])] (i 0) :=
  known_ofF tOk mixed fnsOk (B := []) trivial e95ok (n := 100000) (by kernel_rfl)
theorem k17 [Env] : Known Tryz.prog 143 [(.agg [x3, (i 0)]), (.agg [(.sl [[(i 0)]] false), (.sl [[(i 3)]] false), (.v (.bool false))])] nl :=
  known_ofF tOk mixed fnsOk (B := []) trivial e143ok (n := 100000) (by kernel_rfl)
theorem k18 [Env] : Known Tryz.prog 60 [(.agg [x3, (i 0)]), (.agg [(.sl [[(i 0)]] true), (.sl [[(i 3)]] true), (.v (.bool false))])] (i 0) :=
  known_ofF tOk mixed fnsOk (B := [(95, [([(.agg [x3, (i 0)])], (i 0))]), (143, [([(.agg [x3, (i 0)]), (.agg [(.sl [[(i 0)]] false), (.sl [[(i 3)]] false), (.v (.bool false))])], nl)])]) ⟨⟨k16, trivial⟩, ⟨k17, trivial⟩, trivial⟩ e60ok (n := 100000) (by kernel_rfl)
theorem k19 [Env] : Known Tryz.prog 28 [(.agg [x1, (i 0)]), (.agg [x0, (i 0)])] (.v (.bool true)) :=
  known_ofF tOk mixed fnsOk (B := [(95, [([(.agg [x1, (i 0)])], (i 0)), ([(.agg [x0, (i 0)])], (i 0))]), (60, [([(.agg [x3, (i 0)]), (.agg [(.sl [[(i 0)]] true), (.sl [[(i 3)]] true), (.v (.bool false))])], (i 0))])]) ⟨⟨k11, k10, trivial⟩, ⟨k18, trivial⟩, trivial⟩ e28ok (n := 100000) (by kernel_rfl)
theorem k20 [Env] : Known Tryz.prog 5 [(.agg [x0, (i 0)]), (.agg [x1, (i 0)])] (.v (.bool true)) :=
  known_ofF tOk mixed fnsOk (B := [(28, [([(.agg [x0, (i 0)]), (.agg [x1, (i 0)])], (.v (.bool true))), ([(.agg [x1, (i 0)]), (.agg [x0, (i 0)])], (.v (.bool true)))])]) ⟨⟨k15, k19, trivial⟩, trivial⟩ e5ok (n := 100000) (by kernel_rfl)
theorem k21 [Env] : Known Tryz.prog 10 [] (.agg [x4, (i 0)]) :=
  known_ofF tOk mixed fnsOk (B := []) trivial e10ok (n := 100000) (by kernel_rfl)
theorem k22 [Env] : Known Tryz.prog 11 [] (.agg [x5, (i 0)]) :=
  known_ofF tOk mixed fnsOk (B := []) trivial e11ok (n := 100000) (by kernel_rfl)
theorem k23 [Env] : Known Tryz.prog 95 [(.agg [x4, (i 0)])] (i 0) :=
  known_ofF tOk mixed fnsOk (B := []) trivial e95ok (n := 100000) (by kernel_rfl)
theorem k24 [Env] : Known Tryz.prog 95 [(.agg [x5, (i 0)])] (i 0) :=
  known_ofF tOk mixed fnsOk (B := []) trivial e95ok (n := 100000) (by kernel_rfl)
theorem k25 [Env] : Known Tryz.prog 95 [(.agg [x6, (i 0)])] (i 0) :=
  known_ofF tOk mixed fnsOk (B := []) trivial e95ok (n := 100000) (by kernel_rfl)
theorem k26 [Env] : Known Tryz.prog 143 [(.agg [x6, (i 0)]), (.agg [(.sl [[(i 0)]] false), (.sl [[(i 4)]] false), (.v (.bool false))])] x7 :=
  known_ofF tOk mixed fnsOk (B := []) trivial e143ok (n := 100000) (by kernel_rfl)
theorem k27 [Env] : Known Tryz.prog 143 [(.agg [x6, (i 0)]), (.agg [(.sl [[(i 3)]] false), (.sl [[(i 7)]] false), (.v (.bool false))])] nl :=
  known_ofF tOk mixed fnsOk (B := []) trivial e143ok (n := 100000) (by kernel_rfl)
theorem k28 [Env] : Known Tryz.prog 143 [(.agg [x6, (i 0)]), (.agg [(.sl [[(i 3)]] false), nl, (.v (.bool true))])] (.sl [[(i 5), (i 0), nl], [(i 7), (i 0), (.sl [[(.sl [[(.sl [[nl, nl, (.v (.bool false))], [nl, nl, (.v (.bool true))]] false)]] true)]] true)]] false) :=
  known_ofF tOk mixed fnsOk (B := []) trivial e143ok (n := 100000) (by kernel_rfl)
theorem k29 [Env] : Known Tryz.prog 143 [(.agg [x6, (i 0)]), (.agg [(.sl [[(i 3)]] false), nl, (.v (.bool false))])] x8 :=
  known_ofF tOk mixed fnsOk (B := []) trivial e143ok (n := 100000) (by kernel_rfl)
theorem k30 [Env] : Known Tryz.prog 143 [(.agg [x6, (i 0)]), (.agg [(.sl [[(i 3)]] false), (.sl [[(i 7)]] false), (.v (.bool true))])] nl :=
  known_ofF tOk mixed fnsOk (B := []) trivial e143ok (n := 100000) (by kernel_rfl)
theorem k31 [Env] : Known Tryz.prog 143 [(.agg [x6, (i 0)]), (.agg [nl, nl, (.v (.bool false))])] x8 :=
  known_ofF tOk mixed fnsOk (B := []) trivial e143ok (n := 100000) (by kernel_rfl)
theorem k32 [Env] : Known Tryz.prog 143 [(.agg [x6, (i 0)]), (.agg [nl, nl, (.v (.bool true))])] (.sl [[(i 5), (i 0), nl], [(i 7), (i 0), (.sl [[(.sl [[(.sl [[nl, nl, (.v (.bool false))], [nl, nl, (.v (.bool true))]] false)]] true)]] true)]] false) :=
  known_ofF tOk mixed fnsOk (B := []) trivial e143ok (n := 100000) (by kernel_rfl)
theorem k33 [Env] : Known Tryz.prog 60 [(.agg [x6, (i 0)]), (.agg [(.sl [[(i 0)]] true), (.sl [[(i 4)]] true), (.v (.bool false))])] (i 0) :=
  known_ofF tOk mixed fnsOk (B := [(95, [([(.agg [x6, (i 0)])], (i 0))]), (143, [([(.agg [x6, (i 0)]), (.agg [(.sl [[(i 0)]] false), (.sl [[(i 4)]] false), (.v (.bool false))])], x7), ([(.agg [x6, (i 0)]), (.agg [(.sl [[(i 3)]] false), (.sl [[(i 7)]] false), (.v (.bool false))])], nl), ([(.agg [x6, (i 0)]), (.agg [(.sl [[(i 3)]] false), nl, (.v (.bool true))])], (.sl [[(i 5), (i 0), nl], [(i 7), (i 0), (.sl [[(.sl [[(.sl [[nl, nl, (.v (.bool false))], [nl, nl, (.v (.bool true))]] false)]] true)]] true)]] false)), ([(.agg [x6, (i 0)]), (.agg [(.sl [[(i 3)]] false), nl, (.v (.bool false))])], x8), ([(.agg [x6, (i 0)]), (.agg [(.sl [[(i 3)]] false), (.sl [[(i 7)]] false), (.v (.bool true))])], nl), ([(.agg [x6, (i 0)]), (.agg [nl, nl, (.v (.bool false))])], x8), ([(.agg [x6, (i 0)]), (.agg [nl, nl, (.v (.bool true))])], (.sl [[(i 5), (i 0), nl], [(i 7), (i 0), (.sl [[(.sl [[(.sl [[nl, nl, (.v (.bool false))], [nl, nl, (.v (.bool true))]] false)]] true)]] true)]] false))])]) ⟨⟨k25, trivial⟩, ⟨k26, k27, k28, k29, k30, k31, k32, trivial⟩, trivial⟩ e60ok (n := 100000) (by kernel_rfl)
theorem k34 [Env] : Known Tryz.prog 28 [(.agg [x4, (i 0)]), (.agg [x5, (i 0)])] (.v (.bool true)) :=
  known_ofF tOk mixed fnsOk (B := [(95, [([(.agg [x4, (i 0)])], (i 0)), ([(.agg [x5, (i 0)])], (i 0))]), (60, [([(.agg [x6, (i 0)]), (.agg [(.sl [[(i 0)]] true), (.sl [[(i 4)]] true), (.v (.bool false))])], (i 0))])]) ⟨⟨k23, k24, trivial⟩, ⟨k33, trivial⟩, trivial⟩ e28ok (n := 100000) (by kernel_rfl)
theorem k35 [Env] : Known Tryz.prog 28 [(.agg [x5, (i 0)]), (.agg [x4, (i 0)])] (.v (.bool true)) :=
  known_ofF tOk mixed fnsOk (B := [(95, [([(.agg [x5, (i 0)])], (i 0)), ([(.agg [x4, (i 0)])], (i 0))]), (60, [([(.agg [x6, (i 0)]), (.agg [(.sl [[(i 0)]] true), (.sl [[(i 4)]] true), (.v (.bool false))])], (i 0))])]) ⟨⟨k24, k23, trivial⟩, ⟨k33, trivial⟩, trivial⟩ e28ok (n := 100000) (by kernel_rfl)
theorem k36 [Env] : Known Tryz.prog 5 [(.agg [x4, (i 0)]), (.agg [x5, (i 0)])] (.v (.bool true)) :=
  known_ofF tOk mixed fnsOk (B := [(28, [([(.agg [x4, (i 0)]), (.agg [x5, (i 0)])], (.v (.bool true))), ([(.agg [x5, (i 0)]), (.agg [x4, (i 0)])], (.v (.bool true)))])]) ⟨⟨k34, k35, trivial⟩, trivial⟩ e5ok (n := 100000) (by kernel_rfl)
theorem k37 [Env] : Known Tryz.prog 12 [] (.agg [(.sl [[(i 13), (i 0), (i 0), (sb []), nl, nl, (i 1), (i 1)], [(i 2), (i 0), (i 0), (sb []), nl, nl, (i 0), (i 0)]] false), (i 0)]) :=
  known_ofF tOk mixed fnsOk (B := []) trivial e12ok (n := 100000) (by kernel_rfl)
theorem k38 [Env] : Known Tryz.prog 13 [] (.agg [(.sl [[(i 13), (i 0), (i 0), (sb []), nl, nl, (i 1), (i 1)], [(i 2), (i 0), (i 0), (sb []), nl, nl, (i 0), (i 0)]] true), (i 0)]) :=
  known_ofF tOk mixed fnsOk (B := []) trivial e13ok (n := 100000) (by kernel_rfl)
theorem k39 [Env] : Known Tryz.prog 95 [(.agg [(.sl [[(i 13), (i 0), (i 0), (sb []), nl, nl, (i 1), (i 1)], [(i 2), (i 0), (i 0), (sb []), nl, nl, (i 0), (i 0)]] false), (i 0)])] (i 0) :=
  known_ofF tOk mixed fnsOk (B := []) trivial e95ok (n := 100000) (by kernel_rfl)
theorem k40 [Env] : Known Tryz.prog 95 [(.agg [(.sl [[(i 13), (i 0), (i 0), (sb []), nl, nl, (i 1), (i 1)], [(i 2), (i 0), (i 0), (sb []), nl, nl, (i 0), (i 0)]] true), (i 0)])] (i 0) :=
  known_ofF tOk mixed fnsOk (B := []) trivial e95ok (n := 100000) (by kernel_rfl)
theorem k41 [Env] : Known Tryz.prog 95 [(.agg [x9, (i 0)])] (i 0) :=
  known_ofF tOk mixed fnsOk (B := []) trivial e95ok (n := 100000) (by kernel_rfl)
theorem k42 [Env] : Known Tryz.prog 143 [(.agg [x9, (i 0)]), (.agg [(.sl [[(i 0)]] false), (.sl [[(i 2)]] false), (.v (.bool false))])] x10 :=
  known_ofF tOk mixed fnsOk (B := []) trivial e143ok (n := 100000) (by kernel_rfl)
theorem k43 [Env] : Known Tryz.prog 143 [(.agg [x9, (i 0)]), (.agg [(.sl [[(i 1)]] false), (.sl [[(i 3)]] true), (.v (.bool false))])] nl :=
  known_ofF tOk mixed fnsOk (B := []) trivial e143ok (n := 100000) (by kernel_rfl)
theorem k44 [Env] : Known Tryz.prog 60 [(.agg [x9, (i 0)]), (.agg [(.sl [[(i 0)]] true), (.sl [[(i 2)]] true), (.v (.bool false))])] (i 0) :=
  known_ofF tOk mixed fnsOk (B := [(95, [([(.agg [x9, (i 0)])], (i 0))]), (143, [([(.agg [x9, (i 0)]), (.agg [(.sl [[(i 0)]] false), (.sl [[(i 2)]] false), (.v (.bool false))])], x10), ([(.agg [x9, (i 0)]), (.agg [(.sl [[(i 1)]] false), (.sl [[(i 3)]] true), (.v (.bool false))])], nl)])]) ⟨⟨k41, trivial⟩, ⟨k42, k43, trivial⟩, trivial⟩ e60ok (n := 100000) (by kernel_rfl)
theorem k45 [Env] : Known Tryz.prog 28 [(.agg [(.sl [[(i 13), (i 0), (i 0), (sb []), nl, nl, (i 1), (i 1)], [(i 2), (i 0), (i 0), (sb []), nl, nl, (i 0), (i 0)]] false), (i 0)]), (.agg [(.sl [[(i 13), (i 0), (i 0), (sb []), nl, nl, (i 1), (i 1)], [(i 2), (i 0), (i 0), (sb []), nl, nl, (i 0), (i 0)]] true), (i 0)])] (.v (.bool true)) :=
  known_ofF tOk mixed fnsOk (B := [(95, [([(.agg [(.sl [[(i 13), (i 0), (i 0), (sb []), nl, nl, (i 1), (i 1)], [(i 2), (i 0), (i 0), (sb []), nl, nl, (i 0), (i 0)]] false), (i 0)])], (i 0)), ([(.agg [(.sl [[(i 13), (i 0), (i 0), (sb []), nl, nl, (i 1), (i 1)], [(i 2), (i 0), (i 0), (sb []), nl, nl, (i 0), (i 0)]] true), (i 0)])], (i 0))]), (60, [([(.agg [x9, (i 0)]), (.agg [(.sl [[(i 0)]] true), (.sl [[(i 2)]] true), (.v (.bool false))])], (i 0))])]) ⟨⟨k39, k40, trivial⟩, ⟨k44, trivial⟩, trivial⟩ e28ok (n := 100000) (by kernel_rfl)
theorem k46 [Env] : Known Tryz.prog 28 [(.agg [(.sl [[(i 13), (i 0), (i 0), (sb []), nl, nl, (i 1), (i 1)], [(i 2), (i 0), (i 0), (sb []), nl, nl, (i 0), (i 0)]] true), (i 0)]), (.agg [(.sl [[(i 13), (i 0), (i 0), (sb []), nl, nl, (i 1), (i 1)], [(i 2), (i 0), (i 0), (sb []), nl, nl, (i 0), (i 0)]] false), (i 0)])] (.v (.bool true)) :=
  known_ofF tOk mixed fnsOk (B := [(95, [([(.agg [(.sl [[(i 13), (i 0), (i 0), (sb []), nl, nl, (i 1), (i 1)], [(i 2), (i 0), (i 0), (sb []), nl, nl, (i 0), (i 0)]] true), (i 0)])], (i 0)), ([(.agg [(.sl [[(i 13), (i 0), (i 0), (sb []), nl, nl, (i 1), (i 1)], [(i 2), (i 0), (i 0), (sb []), nl, nl, (i 0), (i 0)]] false), (i 0)])], (i 0))]), (60, [([(.agg [x9, (i 0)]), (.agg [(.sl [[(i 0)]] true), (.sl [[(i 2)]] true), (.v (.bool false))])], (i 0))])]) ⟨⟨k40, k39, trivial⟩, ⟨k44, trivial⟩, trivial⟩ e28ok (n := 100000) (by kernel_rfl)
theorem k47 [Env] : Known Tryz.prog 5 [(.agg [(.sl [[(i 13), (i 0), (i 0), (sb []), nl, nl, (i 1), (i 1)], [(i 2), (i 0), (i 0), (sb []), nl, nl, (i 0), (i 0)]] false), (i 0)]), (.agg [(.sl [[(i 13), (i 0), (i 0), (sb []), nl, nl, (i 1), (i 1)], [(i 2), (i 0), (i 0), (sb []), nl, nl, (i 0), (i 0)]] true), (i 0)])] (.v (.bool true)) :=
  known_ofF tOk mixed fnsOk (B := [(28, [([(.agg [(.sl [[(i 13), (i 0), (i 0), (sb []), nl, nl, (i 1), (i 1)], [(i 2), (i 0), (i 0), (sb []), nl, nl, (i 0), (i 0)]] false), (i 0)]), (.agg [(.sl [[(i 13), (i 0), (i 0), (sb []), nl, nl, (i 1), (i 1)], [(i 2), (i 0), (i 0), (sb []), nl, nl, (i 0), (i 0)]] true), (i 0)])], (.v (.bool true))), ([(.agg [(.sl [[(i 13), (i 0), (i 0), (sb []), nl, nl, (i 1), (i 1)], [(i 2), (i 0), (i 0), (sb []), nl, nl, (i 0), (i 0)]] true), (i 0)]), (.agg [(.sl [[(i 13), (i 0), (i 0), (sb []), nl, nl, (i 1), (i 1)], [(i 2), (i 0), (i 0), (sb []), nl, nl, (i 0), (i 0)]] false), (i 0)])], (.v (.bool true)))])]) ⟨⟨k45, k46, trivial⟩, trivial⟩ e5ok (n := 100000) (by kernel_rfl)
theorem k48 [Env] : Known Tryz.prog 22 [] (.agg [(.sl [[(i 8), (i 0), (i 0), (sb []), nl, nl, (i 0), (i 0)]] true), (i 0)]) :=
  known_ofF tOk mixed fnsOk (B := []) trivial e22ok (n := 100000) (by kernel_rfl)
theorem k49 [Env] : Known Tryz.prog 23 [] (.agg [(.sl [[(i 8), (i 0), (i 0), (sb []), nl, nl, (i 0), (i 0)]] true), (i 0)]) :=
  known_ofF tOk mixed fnsOk (B := []) trivial e23ok (n := 100000) (by kernel_rfl)
theorem k50 [Env] : Known Tryz.prog 95 [(.agg [(.sl [[(i 8), (i 0), (i 0), (sb []), nl, nl, (i 0), (i 0)]] true), (i 0)])] (i 0) :=
  known_ofF tOk mixed fnsOk (B := []) trivial e95ok (n := 100000) (by kernel_rfl)
theorem k51 [Env] : Known Tryz.prog 95 [(.agg [(.sl [[(i 8), (i 0), (i 0), (sb []), nl, nl, (i 0), (i 0)], [(i 8), (i 0), (i 0), (sb []), nl, nl, (i 0), (i 0)]] false), (i 0)])] (i 0) :=
  known_ofF tOk mixed fnsOk (B := []) trivial e95ok (n := 100000) (by kernel_rfl)
theorem k52 [Env] : Known Tryz.prog 143 [(.agg [(.sl [[(i 8), (i 0), (i 0), (sb []), nl, nl, (i 0), (i 0)], [(i 8), (i 0), (i 0), (sb []), nl, nl, (i 0), (i 0)]] false), (i 0)]), (.agg [(.sl [[(i 0)]] false), (.sl [[(i 1)]] false), (.v (.bool false))])] nl :=
  known_ofF tOk mixed fnsOk (B := []) trivial e143ok (n := 100000) (by kernel_rfl)
theorem k53 [Env] : Known Tryz.prog 60 [(.agg [(.sl [[(i 8), (i 0), (i 0), (sb []), nl, nl, (i 0), (i 0)], [(i 8), (i 0), (i 0), (sb []), nl, nl, (i 0), (i 0)]] false), (i 0)]), (.agg [(.sl [[(i 0)]] true), (.sl [[(i 1)]] true), (.v (.bool false))])] (i 0) :=
  known_ofF tOk mixed fnsOk (B := [(95, [([(.agg [(.sl [[(i 8), (i 0), (i 0), (sb []), nl, nl, (i 0), (i 0)], [(i 8), (i 0), (i 0), (sb []), nl, nl, (i 0), (i 0)]] false), (i 0)])], (i 0))]), (143, [([(.agg [(.sl [[(i 8), (i 0), (i 0), (sb []), nl, nl, (i 0), (i 0)], [(i 8), (i 0), (i 0), (sb []), nl, nl, (i 0), (i 0)]] false), (i 0)]), (.agg [(.sl [[(i 0)]] false), (.sl [[(i 1)]] false), (.v (.bool false))])], nl)])]) ⟨⟨k51, trivial⟩, ⟨k52, trivial⟩, trivial⟩ e60ok (n := 100000) (by kernel_rfl)
theorem k54 [Env] : Known Tryz.prog 28 [(.agg [(.sl [[(i 8), (i 0), (i 0), (sb []), nl, nl, (i 0), (i 0)]] true), (i 0)]), (.agg [(.sl [[(i 8), (i 0), (i 0), (sb []), nl, nl, (i 0), (i 0)]] true), (i 0)])] (.v (.bool true)) :=
  known_ofF tOk mixed fnsOk (B := [(95, [([(.agg [(.sl [[(i 8), (i 0), (i 0), (sb []), nl, nl, (i 0), (i 0)]] true), (i 0)])], (i 0))]), (60, [([(.agg [(.sl [[(i 8), (i 0), (i 0), (sb []), nl, nl, (i 0), (i 0)], [(i 8), (i 0), (i 0), (sb []), nl, nl, (i 0), (i 0)]] false), (i 0)]), (.agg [(.sl [[(i 0)]] true), (.sl [[(i 1)]] true), (.v (.bool false))])], (i 0))])]) ⟨⟨k50, trivial⟩, ⟨k53, trivial⟩, trivial⟩ e28ok (n := 100000) (by kernel_rfl)
theorem k55 [Env] : Known Tryz.prog 5 [(.agg [(.sl [[(i 8), (i 0), (i 0), (sb []), nl, nl, (i 0), (i 0)]] true), (i 0)]), (.agg [(.sl [[(i 8), (i 0), (i 0), (sb []), nl, nl, (i 0), (i 0)]] true), (i 0)])] (.v (.bool true)) :=
  known_ofF tOk mixed fnsOk (B := [(28, [([(.agg [(.sl [[(i 8), (i 0), (i 0), (sb []), nl, nl, (i 0), (i 0)]] true), (i 0)]), (.agg [(.sl [[(i 8), (i 0), (i 0), (sb []), nl, nl, (i 0), (i 0)]] true), (i 0)])], (.v (.bool true)))])]) ⟨⟨k54, trivial⟩, trivial⟩ e5ok (n := 100000) (by kernel_rfl)
end Go.Ev
