/- Calls that are known, by running them. -/
import Derived.Test.YtpahaogeenalpaaGreatEvKv
import Derived.Test.YtpahaogeenalpaaGreatEvKa
set_option linter.all false
namespace Go.Ev
open Go.Proofs
theorem k152 [Env] : Known Tryz.prog 52 [(.agg [(.sl [[(i 13), (i 0), (i 0), (sb []), nl, (.sl [[(i 0), (sb [97]), (i 1), (.v (.bool false))]] true), (i 1), (i 1)], [(i 2), (i 0), (i 0), (sb []), nl, nl, (i 0), (i 0)]] true), (i 0)]), (.agg [x2, (i 0)])] (.v (.bool true)) :=
  known_ofF tOk mixed fnsAOk (B := [(41, [([(.agg [(.sl [[(i 13), (i 0), (i 0), (sb []), nl, (.sl [[(i 0), (sb [97]), (i 1), (.v (.bool false))]] true), (i 1), (i 1)], [(i 2), (i 0), (i 0), (sb []), nl, nl, (i 0), (i 0)]] true), (i 0)])], (i 0)), ([(.agg [x2, (i 0)])], (i 0))]), (139, [([(.agg [x6, (i 0)]), (.agg [(.sl [[(i 0)]] true), (.sl [[(i 2)]] true), (.v (.bool false))])], (i 0))])]) ⟨⟨k44, k43, trivial⟩, ⟨k151, trivial⟩, trivial⟩ e52ok (n := 100000) (by kernel_rfl)
theorem k153 [Env] : Known Tryz.prog 24 [(.agg [x2, (i 0)]), (.agg [(.sl [[(i 13), (i 0), (i 0), (sb []), nl, (.sl [[(i 0), (sb [97]), (i 1), (.v (.bool false))]] true), (i 1), (i 1)], [(i 2), (i 0), (i 0), (sb []), nl, nl, (i 0), (i 0)]] true), (i 0)])] (.v (.bool true)) :=
  known_ofF tOk mixed fnsAOk (B := [(52, [([(.agg [x2, (i 0)]), (.agg [(.sl [[(i 13), (i 0), (i 0), (sb []), nl, (.sl [[(i 0), (sb [97]), (i 1), (.v (.bool false))]] true), (i 1), (i 1)], [(i 2), (i 0), (i 0), (sb []), nl, nl, (i 0), (i 0)]] true), (i 0)])], (.v (.bool true))), ([(.agg [(.sl [[(i 13), (i 0), (i 0), (sb []), nl, (.sl [[(i 0), (sb [97]), (i 1), (.v (.bool false))]] true), (i 1), (i 1)], [(i 2), (i 0), (i 0), (sb []), nl, nl, (i 0), (i 0)]] true), (i 0)]), (.agg [x2, (i 0)])], (.v (.bool true)))])]) ⟨⟨k98, k152, trivial⟩, trivial⟩ e24ok (n := 100000) (by kernel_rfl)
theorem k154 [Env] : Known Tryz.prog 41 [(.agg [(.sl [[(i 2), (i 0), (i 0), (sb []), nl, nl, (i 0), (i 0)]] true), (i 0)])] (i 0) :=
  known_ofF tOk mixed fnsAOk (B := []) trivial e41ok (n := 100000) (by kernel_rfl)
theorem k155 [Env] : Known Tryz.prog 41 [(.agg [(.sl [[(i 2), (i 0), (i 0), (sb []), nl, nl, (i 0), (i 0)], [(i 2), (i 0), (i 0), (sb []), nl, nl, (i 0), (i 0)]] false), (i 0)])] (i 0) :=
  known_ofF tOk mixed fnsAOk (B := []) trivial e41ok (n := 100000) (by kernel_rfl)
theorem k156 [Env] : Known Tryz.prog 139 [(.agg [(.sl [[(i 2), (i 0), (i 0), (sb []), nl, nl, (i 0), (i 0)], [(i 2), (i 0), (i 0), (sb []), nl, nl, (i 0), (i 0)]] false), (i 0)]), (.agg [(.sl [[(i 0)]] true), (.sl [[(i 1)]] true), (.v (.bool false))])] (i 0) :=
  known_ofF tOk mixed fnsAOk (B := [(41, [([(.agg [(.sl [[(i 2), (i 0), (i 0), (sb []), nl, nl, (i 0), (i 0)], [(i 2), (i 0), (i 0), (sb []), nl, nl, (i 0), (i 0)]] false), (i 0)])], (i 0))])]) ⟨⟨k155, trivial⟩, trivial⟩ e139ok (n := 100000) (by kernel_rfl)
theorem k157 [Env] : Known Tryz.prog 52 [(.agg [(.sl [[(i 2), (i 0), (i 0), (sb []), nl, nl, (i 0), (i 0)]] true), (i 0)]), (.agg [(.sl [[(i 2), (i 0), (i 0), (sb []), nl, nl, (i 0), (i 0)]] true), (i 0)])] (.v (.bool true)) :=
  known_ofF tOk mixed fnsAOk (B := [(41, [([(.agg [(.sl [[(i 2), (i 0), (i 0), (sb []), nl, nl, (i 0), (i 0)]] true), (i 0)])], (i 0))]), (139, [([(.agg [(.sl [[(i 2), (i 0), (i 0), (sb []), nl, nl, (i 0), (i 0)], [(i 2), (i 0), (i 0), (sb []), nl, nl, (i 0), (i 0)]] false), (i 0)]), (.agg [(.sl [[(i 0)]] true), (.sl [[(i 1)]] true), (.v (.bool false))])], (i 0))])]) ⟨⟨k154, trivial⟩, ⟨k156, trivial⟩, trivial⟩ e52ok (n := 100000) (by kernel_rfl)
theorem k158 [Env] : Known Tryz.prog 24 [(.agg [(.sl [[(i 2), (i 0), (i 0), (sb []), nl, nl, (i 0), (i 0)]] true), (i 0)]), (.agg [(.sl [[(i 2), (i 0), (i 0), (sb []), nl, nl, (i 0), (i 0)]] true), (i 0)])] (.v (.bool true)) :=
  known_ofF tOk mixed fnsAOk (B := [(52, [([(.agg [(.sl [[(i 2), (i 0), (i 0), (sb []), nl, nl, (i 0), (i 0)]] true), (i 0)]), (.agg [(.sl [[(i 2), (i 0), (i 0), (sb []), nl, nl, (i 0), (i 0)]] true), (i 0)])], (.v (.bool true)))])]) ⟨⟨k157, trivial⟩, trivial⟩ e24ok (n := 100000) (by kernel_rfl)
theorem k159 [Env] : Known Tryz.prog 12 [] (.v (.bool true)) :=
  known_ofF tOk mixed fnsAOk (B := [(24, [([(.agg [(.sl [[(i 17), (i 0), (i 0), (sb []), (.sl [[(i 1)]] false), nl, (i 0), (i 0)], [(i 3), (j 9223372036854775807), (i 9223372036854775807), (sb []), nl, nl, (i 0), (i 0)]] false), (i 0)]), (.agg [(.sl [[(i 3), (j 9223372036854775807), (i 9223372036854775807), (sb []), nl, nl, (i 0), (i 0)]] true), (i 0)])], (.v (.bool true))), ([(.agg [x2, (i 0)]), (.agg [(.sl [[(i 13), (i 0), (i 0), (sb []), nl, (.sl [[(i 0), (sb [97]), (i 1), (.v (.bool false))]] true), (i 1), (i 1)], [(i 2), (i 0), (i 0), (sb []), nl, nl, (i 0), (i 0)]] true), (i 0)])], (.v (.bool true))), ([(.agg [(.sl [[(i 2), (i 0), (i 0), (sb []), nl, nl, (i 0), (i 0)]] true), (i 0)]), (.agg [(.sl [[(i 2), (i 0), (i 0), (sb []), nl, nl, (i 0), (i 0)]] true), (i 0)])], (.v (.bool true)))])]) ⟨⟨k42, k153, k158, trivial⟩, trivial⟩ e12ok (n := 100000) (by kernel_rfl)
theorem k160 [Env] : Known Tryz.prog 6 [] (.agg [x9, (i 0)]) :=
  known_ofF tOk mixed fnsAOk (B := []) trivial e6ok (n := 100000) (by kernel_rfl)
theorem k161 [Env] : Known Tryz.prog 41 [(.agg [x9, (i 0)])] (i 0) :=
  known_ofF tOk mixed fnsAOk (B := []) trivial e41ok (n := 100000) (by kernel_rfl)
theorem k162 [Env] : Known Tryz.prog 8 [(i 1)] (.agg [x10, (i 0)]) :=
  known_ofF tOk mixed fnsAOk (B := []) trivial e8ok (n := 100000) (by kernel_rfl)
theorem k163 [Env] : Known Tryz.prog 8 [(i 2)] (.agg [x11, (i 0)]) :=
  known_ofF tOk mixed fnsAOk (B := []) trivial e8ok (n := 100000) (by kernel_rfl)
theorem k164 [Env] : Known Tryz.prog 8 [(i 3)] (.agg [x12, (i 0)]) :=
  known_ofF tOk mixed fnsAOk (B := []) trivial e8ok (n := 100000) (by kernel_rfl)
theorem k165 [Env] : Known Tryz.prog 8 [(i 4)] (.agg [x13, (i 0)]) :=
  known_ofF tOk mixed fnsAOk (B := []) trivial e8ok (n := 100000) (by kernel_rfl)
theorem k166 [Env] : Known Tryz.prog 8 [(i 0)] (.agg [x14, (i 0)]) :=
  known_ofF tOk mixed fnsAOk (B := [(8, [([(i 1)], (.agg [x10, (i 0)])), ([(i 2)], (.agg [x11, (i 0)])), ([(i 3)], (.agg [x12, (i 0)])), ([(i 4)], (.agg [x13, (i 0)]))])]) ⟨⟨k162, k163, k164, k165, trivial⟩, trivial⟩ e8ok (n := 100000) (by kernel_rfl)
end Go.Ev
