/- Calls that are known, by running them. -/
import Derived.Test.YtpahaogeenalpaaGreatEvKv
set_option linter.all false
namespace Go.Ev
open Go.Proofs
theorem k168 [Env] : Known Tryz.prog 41 [(.agg [x10, (i 0)])] (i 0) :=
  known_ofF tOk mixed fnsAOk (B := []) trivial e41ok (n := 100000) (by kernel_rfl)
theorem k169 [Env] : Known Tryz.prog 41 [(.agg [x11, (i 0)])] (i 0) :=
  known_ofF tOk mixed fnsAOk (B := []) trivial e41ok (n := 100000) (by kernel_rfl)
theorem k170 [Env] : Known Tryz.prog 41 [(.agg [x12, (i 0)])] (i 0) :=
  known_ofF tOk mixed fnsAOk (B := []) trivial e41ok (n := 100000) (by kernel_rfl)
theorem k171 [Env] : Known Tryz.prog 41 [(.agg [x13, (i 0)])] (i 0) :=
  known_ofF tOk mixed fnsAOk (B := []) trivial e41ok (n := 100000) (by kernel_rfl)
theorem k172 [Env] : Known Tryz.prog 9 [(i 0)] (.agg [(.sl [[(i 14), (i 0), (i 0), (sb []), (.sl [[(i 1)]] false), nl, (i 0), (i 0)], [(i 2), (i 0), (i 0), (sb []), nl, nl, (i 0), (i 0)]] false), (i 0)]) :=
  known_ofF tOk mixed fnsAOk (B := []) trivial e9ok (n := 100000) (by kernel_rfl)
theorem k173 [Env] : Known Tryz.prog 41 [(.agg [(.sl [[(i 14), (i 0), (i 0), (sb []), (.sl [[(i 1)]] false), nl, (i 0), (i 0)], [(i 2), (i 0), (i 0), (sb []), nl, nl, (i 0), (i 0)]] false), (i 0)])] (i 0) :=
  known_ofF tOk mixed fnsAOk (B := []) trivial e41ok (n := 100000) (by kernel_rfl)
theorem k174 [Env] : Known Tryz.prog 9 [(i 1)] (.agg [x15, (i 0)]) :=
  known_ofF tOk mixed fnsAOk (B := []) trivial e9ok (n := 100000) (by kernel_rfl)
theorem k175 [Env] : Known Tryz.prog 41 [(.agg [x15, (i 0)])] (i 0) :=
  known_ofF tOk mixed fnsAOk (B := []) trivial e41ok (n := 100000) (by kernel_rfl)
theorem k176 [Env] : Known Tryz.prog 9 [(i 2)] (.agg [x16, (i 0)]) :=
  known_ofF tOk mixed fnsAOk (B := []) trivial e9ok (n := 100000) (by kernel_rfl)
theorem k177 [Env] : Known Tryz.prog 41 [(.agg [x16, (i 0)])] (i 0) :=
  known_ofF tOk mixed fnsAOk (B := []) trivial e41ok (n := 100000) (by kernel_rfl)
theorem k178 [Env] : Known Tryz.prog 9 [(i 3)] (.agg [x17, (i 0)]) :=
  known_ofF tOk mixed fnsAOk (B := []) trivial e9ok (n := 100000) (by kernel_rfl)
theorem k179 [Env] : Known Tryz.prog 41 [(.agg [x17, (i 0)])] (i 0) :=
  known_ofF tOk mixed fnsAOk (B := []) trivial e41ok (n := 100000) (by kernel_rfl)
theorem k180 [Env] : Known Tryz.prog 9 [(i 4)] (.agg [x18, (i 0)]) :=
  known_ofF tOk mixed fnsAOk (B := []) trivial e9ok (n := 100000) (by kernel_rfl)
theorem k181 [Env] : Known Tryz.prog 41 [(.agg [x18, (i 0)])] (i 0) :=
  known_ofF tOk mixed fnsAOk (B := []) trivial e41ok (n := 100000) (by kernel_rfl)
theorem k182 [Env] : Known Tryz.prog 10 [] (.agg [x19, (i 0)]) :=
  known_ofF tOk mixed fnsAOk (B := []) trivial e10ok (n := 100000) (by kernel_rfl)
theorem k183 [Env] : Known Tryz.prog 41 [(.agg [x19, (i 0)])] (i 0) :=
  known_ofF tOk mixed fnsAOk (B := []) trivial e41ok (n := 100000) (by kernel_rfl)
theorem k184 [Env] : Known Tryz.prog 11 [] (.agg [x20, (i 0)]) :=
  known_ofF tOk mixed fnsAOk (B := []) trivial e11ok (n := 100000) (by kernel_rfl)
theorem k185 [Env] : Known Tryz.prog 41 [(.agg [x20, (i 0)])] (i 0) :=
  known_ofF tOk mixed fnsAOk (B := []) trivial e41ok (n := 100000) (by kernel_rfl)
end Go.Ev
