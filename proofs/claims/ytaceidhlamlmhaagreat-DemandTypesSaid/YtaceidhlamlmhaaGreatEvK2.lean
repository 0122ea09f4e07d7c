/- Calls that are known, by running them. -/
import Derived.Test.YtaceidhlamlmhaaGreatEvVal
set_option linter.all false
namespace Go.Ev
open Go.Proofs
theorem k226 [Env] : Known Tryz.prog 20 [(j 8)] (.agg [(.sl [[(i 1), (i 0), (i 0), (sb []), nl, nl, (i 0), (i 0)]] true), (i 0)]) :=
  known_ofF tOk mixed fnsOk (B := []) trivial e20ok (n := 100000) (by kernel_rfl)
theorem k227 [Env] : Known Tryz.prog 21 [(j 8)] (.agg [(.sl [[(i 1), (i 0), (i 0), (sb []), nl, nl, (i 0), (i 0)]] true), (i 0)]) :=
  known_ofF tOk mixed fnsOk (B := []) trivial e21ok (n := 100000) (by kernel_rfl)
theorem k228 [Env] : Known Tryz.prog 20 [(j 7)] (.agg [(.sl [[(i 1), (i 0), (i 0), (sb []), nl, nl, (i 0), (i 0)]] true), (i 0)]) :=
  known_ofF tOk mixed fnsOk (B := []) trivial e20ok (n := 100000) (by kernel_rfl)
theorem k229 [Env] : Known Tryz.prog 21 [(j 7)] (.agg [(.sl [[(i 1), (i 0), (i 0), (sb []), nl, nl, (i 0), (i 0)]] true), (i 0)]) :=
  known_ofF tOk mixed fnsOk (B := []) trivial e21ok (n := 100000) (by kernel_rfl)
theorem k230 [Env] : Known Tryz.prog 20 [(j 6)] (.agg [(.sl [[(i 1), (i 0), (i 0), (sb []), nl, nl, (i 0), (i 0)]] true), (i 0)]) :=
  known_ofF tOk mixed fnsOk (B := []) trivial e20ok (n := 100000) (by kernel_rfl)
theorem k231 [Env] : Known Tryz.prog 21 [(j 6)] (.agg [(.sl [[(i 1), (i 0), (i 0), (sb []), nl, nl, (i 0), (i 0)]] true), (i 0)]) :=
  known_ofF tOk mixed fnsOk (B := []) trivial e21ok (n := 100000) (by kernel_rfl)
theorem k232 [Env] : Known Tryz.prog 20 [(j 5)] (.agg [(.sl [[(i 1), (i 0), (i 0), (sb []), nl, nl, (i 0), (i 0)]] true), (i 0)]) :=
  known_ofF tOk mixed fnsOk (B := []) trivial e20ok (n := 100000) (by kernel_rfl)
theorem k233 [Env] : Known Tryz.prog 21 [(j 5)] (.agg [(.sl [[(i 1), (i 0), (i 0), (sb []), nl, nl, (i 0), (i 0)]] true), (i 0)]) :=
  known_ofF tOk mixed fnsOk (B := []) trivial e21ok (n := 100000) (by kernel_rfl)
theorem k234 [Env] : Known Tryz.prog 20 [(j 4)] (.agg [(.sl [[(i 1), (i 0), (i 0), (sb []), nl, nl, (i 0), (i 0)]] true), (i 0)]) :=
  known_ofF tOk mixed fnsOk (B := []) trivial e20ok (n := 100000) (by kernel_rfl)
theorem k235 [Env] : Known Tryz.prog 21 [(j 4)] (.agg [(.sl [[(i 1), (i 0), (i 0), (sb []), nl, nl, (i 0), (i 0)]] true), (i 0)]) :=
  known_ofF tOk mixed fnsOk (B := []) trivial e21ok (n := 100000) (by kernel_rfl)
theorem k236 [Env] : Known Tryz.prog 20 [(j 3)] (.agg [(.sl [[(i 1), (i 0), (i 0), (sb []), nl, nl, (i 0), (i 0)]] true), (i 0)]) :=
  known_ofF tOk mixed fnsOk (B := []) trivial e20ok (n := 100000) (by kernel_rfl)
theorem k237 [Env] : Known Tryz.prog 21 [(j 3)] (.agg [(.sl [[(i 1), (i 0), (i 0), (sb []), nl, nl, (i 0), (i 0)]] true), (i 0)]) :=
  known_ofF tOk mixed fnsOk (B := []) trivial e21ok (n := 100000) (by kernel_rfl)
theorem k238 [Env] : Known Tryz.prog 20 [(j 2)] (.agg [(.sl [[(i 1), (i 0), (i 0), (sb []), nl, nl, (i 0), (i 0)]] true), (i 0)]) :=
  known_ofF tOk mixed fnsOk (B := []) trivial e20ok (n := 100000) (by kernel_rfl)
theorem k239 [Env] : Known Tryz.prog 21 [(j 2)] (.agg [(.sl [[(i 1), (i 0), (i 0), (sb []), nl, nl, (i 0), (i 0)]] true), (i 0)]) :=
  known_ofF tOk mixed fnsOk (B := []) trivial e21ok (n := 100000) (by kernel_rfl)
theorem k240 [Env] : Known Tryz.prog 20 [(j 1)] (.agg [(.sl [[(i 1), (i 0), (i 0), (sb []), nl, nl, (i 0), (i 0)]] true), (i 0)]) :=
  known_ofF tOk mixed fnsOk (B := []) trivial e20ok (n := 100000) (by kernel_rfl)
theorem k241 [Env] : Known Tryz.prog 21 [(j 1)] (.agg [(.sl [[(i 1), (i 0), (i 0), (sb []), nl, nl, (i 0), (i 0)]] true), (i 0)]) :=
  known_ofF tOk mixed fnsOk (B := []) trivial e21ok (n := 100000) (by kernel_rfl)
theorem k242 [Env] : Known Tryz.prog 20 [(j 0)] (.agg [(.sl [[(i 1), (i 0), (i 0), (sb []), nl, nl, (i 0), (i 0)]] true), (i 0)]) :=
  known_ofF tOk mixed fnsOk (B := []) trivial e20ok (n := 100000) (by kernel_rfl)
theorem k243 [Env] : Known Tryz.prog 21 [(j 0)] (.agg [(.sl [[(i 1), (i 0), (i 0), (sb []), nl, nl, (i 0), (i 0)]] true), (i 0)]) :=
  known_ofF tOk mixed fnsOk (B := []) trivial e21ok (n := 100000) (by kernel_rfl)
theorem k244 [Env] : Known Tryz.prog 20 [(i 0)] (.agg [(.sl [[(i 14), (i 0), (i 0), (sb []), (.sl [[(i 1)]] false), nl, (i 0), (i 0)], [(i 2), (i 0), (i 0), (sb []), nl, nl, (i 0), (i 0)]] false), (i 0)]) :=
  known_ofF tOk mixed fnsOk (B := []) trivial e20ok (n := 100000) (by kernel_rfl)
theorem k245 [Env] : Known Tryz.prog 21 [(i 0)] (.agg [x22, (i 0)]) :=
  known_ofF tOk mixed fnsOk (B := []) trivial e21ok (n := 100000) (by kernel_rfl)
theorem k246 [Env] : Known Tryz.prog 95 [(.agg [(.sl [[(i 14), (i 0), (i 0), (sb []), (.sl [[(i 1)]] false), nl, (i 0), (i 0)], [(i 2), (i 0), (i 0), (sb []), nl, nl, (i 0), (i 0)]] false), (i 0)])] (i 0) :=
  known_ofF tOk mixed fnsOk (B := []) trivial e95ok (n := 100000) (by kernel_rfl)
theorem k247 [Env] : Known Tryz.prog 95 [(.agg [x22, (i 0)])] (i 0) :=
  known_ofF tOk mixed fnsOk (B := []) trivial e95ok (n := 100000) (by kernel_rfl)
theorem k248 [Env] : Known Tryz.prog 95 [(.agg [x23, (i 0)])] (i 0) :=
  known_ofF tOk mixed fnsOk (B := []) trivial e95ok (n := 100000) (by kernel_rfl)
theorem k249 [Env] : Known Tryz.prog 143 [(.agg [x23, (i 0)]), (.agg [(.sl [[(i 0)]] false), (.sl [[(i 2)]] false), (.v (.bool false))])] (.sl [[(i 9), (i 0), (.sl [[(.sl [[(.sl [[(.sl [[(i 1)]] false), (.sl [[(i 4)]] true), (.v (.bool false))]] true)]] false)]] false)]] false) :=
  known_ofF tOk mixed fnsOk (B := []) trivial e143ok (n := 100000) (by kernel_rfl)
theorem k250 [Env] : Known Tryz.prog 143 [(.agg [x23, (i 0)]), (.agg [(.sl [[(i 1)]] false), (.sl [[(i 4)]] true), (.v (.bool false))])] nl :=
  known_ofF tOk mixed fnsOk (B := []) trivial e143ok (n := 100000) (by kernel_rfl)
theorem k251 [Env] : Known Tryz.prog 60 [(.agg [x23, (i 0)]), (.agg [(.sl [[(i 0)]] true), (.sl [[(i 2)]] true), (.v (.bool false))])] (i 0) :=
  known_ofF tOk mixed fnsOk (B := [(95, [([(.agg [x23, (i 0)])], (i 0))]), (143, [([(.agg [x23, (i 0)]), (.agg [(.sl [[(i 0)]] false), (.sl [[(i 2)]] false), (.v (.bool false))])], (.sl [[(i 9), (i 0), (.sl [[(.sl [[(.sl [[(.sl [[(i 1)]] false), (.sl [[(i 4)]] true), (.v (.bool false))]] true)]] false)]] false)]] false)), ([(.agg [x23, (i 0)]), (.agg [(.sl [[(i 1)]] false), (.sl [[(i 4)]] true), (.v (.bool false))])], nl)])]) ⟨⟨k248, trivial⟩, ⟨k249, k250, trivial⟩, trivial⟩ e60ok (n := 100000) (by kernel_rfl)
theorem k252 [Env] : Known Tryz.prog 28 [(.agg [(.sl [[(i 14), (i 0), (i 0), (sb []), (.sl [[(i 1)]] false), nl, (i 0), (i 0)], [(i 2), (i 0), (i 0), (sb []), nl, nl, (i 0), (i 0)]] false), (i 0)]), (.agg [x22, (i 0)])] (.v (.bool true)) :=
  known_ofF tOk mixed fnsOk (B := [(95, [([(.agg [(.sl [[(i 14), (i 0), (i 0), (sb []), (.sl [[(i 1)]] false), nl, (i 0), (i 0)], [(i 2), (i 0), (i 0), (sb []), nl, nl, (i 0), (i 0)]] false), (i 0)])], (i 0)), ([(.agg [x22, (i 0)])], (i 0))]), (60, [([(.agg [x23, (i 0)]), (.agg [(.sl [[(i 0)]] true), (.sl [[(i 2)]] true), (.v (.bool false))])], (i 0))])]) ⟨⟨k246, k247, trivial⟩, ⟨k251, trivial⟩, trivial⟩ e28ok (n := 100000) (by kernel_rfl)
theorem k253 [Env] : Known Tryz.prog 95 [(.agg [x24, (i 0)])] (i 0) :=
  known_ofF tOk mixed fnsOk (B := []) trivial e95ok (n := 100000) (by kernel_rfl)
theorem k254 [Env] : Known Tryz.prog 143 [(.agg [x24, (i 0)]), (.agg [(.sl [[(i 0)]] false), (.sl [[(i 3)]] false), (.v (.bool false))])] (.sl [[(i 9), (i 0), (.sl [[(.sl [[(.sl [[(.sl [[(i 2)]] false), (.sl [[(i 4)]] true), (.v (.bool false))]] true)]] false)]] false)]] false) :=
  known_ofF tOk mixed fnsOk (B := []) trivial e143ok (n := 100000) (by kernel_rfl)
theorem k255 [Env] : Known Tryz.prog 143 [(.agg [x24, (i 0)]), (.agg [(.sl [[(i 2)]] false), (.sl [[(i 4)]] true), (.v (.bool false))])] nl :=
  known_ofF tOk mixed fnsOk (B := []) trivial e143ok (n := 100000) (by kernel_rfl)
theorem k256 [Env] : Known Tryz.prog 60 [(.agg [x24, (i 0)]), (.agg [(.sl [[(i 0)]] true), (.sl [[(i 3)]] true), (.v (.bool false))])] (i 0) :=
  known_ofF tOk mixed fnsOk (B := [(95, [([(.agg [x24, (i 0)])], (i 0))]), (143, [([(.agg [x24, (i 0)]), (.agg [(.sl [[(i 0)]] false), (.sl [[(i 3)]] false), (.v (.bool false))])], (.sl [[(i 9), (i 0), (.sl [[(.sl [[(.sl [[(.sl [[(i 2)]] false), (.sl [[(i 4)]] true), (.v (.bool false))]] true)]] false)]] false)]] false)), ([(.agg [x24, (i 0)]), (.agg [(.sl [[(i 2)]] false), (.sl [[(i 4)]] true), (.v (.bool false))])], nl)])]) ⟨⟨k253, trivial⟩, ⟨k254, k255, trivial⟩, trivial⟩ e60ok (n := 100000) (by kernel_rfl)
theorem k257 [Env] : Known Tryz.prog 28 [(.agg [x22, (i 0)]), (.agg [(.sl [[(i 14), (i 0), (i 0), (sb []), (.sl [[(i 1)]] false), nl, (i 0), (i 0)], [(i 2), (i 0), (i 0), (sb []), nl, nl, (i 0), (i 0)]] false), (i 0)])] (.v (.bool true)) :=
  known_ofF tOk mixed fnsOk (B := [(95, [([(.agg [x22, (i 0)])], (i 0)), ([(.agg [(.sl [[(i 14), (i 0), (i 0), (sb []), (.sl [[(i 1)]] false), nl, (i 0), (i 0)], [(i 2), (i 0), (i 0), (sb []), nl, nl, (i 0), (i 0)]] false), (i 0)])], (i 0))]), (60, [([(.agg [x24, (i 0)]), (.agg [(.sl [[(i 0)]] true), (.sl [[(i 3)]] true), (.v (.bool false))])], (i 0))])]) ⟨⟨k247, k246, trivial⟩, ⟨k256, trivial⟩, trivial⟩ e28ok (n := 100000) (by kernel_rfl)
theorem k258 [Env] : Known Tryz.prog 5 [(.agg [(.sl [[(i 14), (i 0), (i 0), (sb []), (.sl [[(i 1)]] false), nl, (i 0), (i 0)], [(i 2), (i 0), (i 0), (sb []), nl, nl, (i 0), (i 0)]] false), (i 0)]), (.agg [x22, (i 0)])] (.v (.bool true)) :=
  known_ofF tOk mixed fnsOk (B := [(28, [([(.agg [(.sl [[(i 14), (i 0), (i 0), (sb []), (.sl [[(i 1)]] false), nl, (i 0), (i 0)], [(i 2), (i 0), (i 0), (sb []), nl, nl, (i 0), (i 0)]] false), (i 0)]), (.agg [x22, (i 0)])], (.v (.bool true))), ([(.agg [x22, (i 0)]), (.agg [(.sl [[(i 14), (i 0), (i 0), (sb []), (.sl [[(i 1)]] false), nl, (i 0), (i 0)], [(i 2), (i 0), (i 0), (sb []), nl, nl, (i 0), (i 0)]] false), (i 0)])], (.v (.bool true)))])]) ⟨⟨k252, k257, trivial⟩, trivial⟩ e5ok (n := 100000) (by kernel_rfl)
theorem k259 [Env] : Known Tryz.prog 20 [(i 1)] (.agg [x25, (i 0)]) :=
  known_ofF tOk mixed fnsOk (B := []) trivial e20ok (n := 100000) (by kernel_rfl)
theorem k260 [Env] : Known Tryz.prog 21 [(i 1)] (.agg [x26, (i 0)]) :=
  known_ofF tOk mixed fnsOk (B := []) trivial e21ok (n := 100000) (by kernel_rfl)
theorem k261 [Env] : Known Tryz.prog 95 [(.agg [x25, (i 0)])] (i 0) :=
  known_ofF tOk mixed fnsOk (B := []) trivial e95ok (n := 100000) (by kernel_rfl)
theorem k262 [Env] : Known Tryz.prog 95 [(.agg [x26, (i 0)])] (i 0) :=
  known_ofF tOk mixed fnsOk (B := []) trivial e95ok (n := 100000) (by kernel_rfl)
theorem k263 [Env] : Known Tryz.prog 95 [(.agg [x27, (i 0)])] (i 0) :=
  known_ofF tOk mixed fnsOk (B := []) trivial e95ok (n := 100000) (by kernel_rfl)
theorem k264 [Env] : Known Tryz.prog 143 [(.agg [x27, (i 0)]), (.agg [(.sl [[(i 0)]] false), (.sl [[(i 3)]] false), (.v (.bool false))])] x30 :=
  known_ofF tOk mixed fnsOk (B := []) trivial e143ok (n := 100000) (by kernel_rfl)
theorem k265 [Env] : Known Tryz.prog 143 [(.agg [x27, (i 0)]), (.agg [(.sl [[(i 4)]] true), (.sl [[(i 1)]] false), (.v (.bool false))])] nl :=
  known_ofF tOk mixed fnsOk (B := []) trivial e143ok (n := 100000) (by kernel_rfl)
theorem k266 [Env] : Known Tryz.prog 143 [(.agg [x27, (i 0)]), (.agg [nl, (.sl [[(i 5)]] true), (.v (.bool false))])] nl :=
  known_ofF tOk mixed fnsOk (B := []) trivial e143ok (n := 100000) (by kernel_rfl)
theorem k267 [Env] : Known Tryz.prog 143 [(.agg [x27, (i 0)]), (.agg [(.sl [[(i 4)]] true), nl, (.v (.bool false))])] x8 :=
  known_ofF tOk mixed fnsOk (B := []) trivial e143ok (n := 100000) (by kernel_rfl)
theorem k268 [Env] : Known Tryz.prog 143 [(.agg [x27, (i 0)]), (.agg [(.sl [[(i 2)]] false), (.sl [[(i 5)]] true), (.v (.bool false))])] nl :=
  known_ofF tOk mixed fnsOk (B := []) trivial e143ok (n := 100000) (by kernel_rfl)
theorem k269 [Env] : Known Tryz.prog 143 [(.agg [x27, (i 0)]), (.agg [nl, nl, (.v (.bool false))])] x8 :=
  known_ofF tOk mixed fnsOk (B := []) trivial e143ok (n := 100000) (by kernel_rfl)
theorem k270 [Env] : Known Tryz.prog 143 [(.agg [x27, (i 0)]), (.agg [nl, nl, (.v (.bool true))])] (.sl [[(i 5), (i 0), nl], [(i 7), (i 0), (.sl [[(.sl [[(.sl [[nl, nl, (.v (.bool false))], [nl, nl, (.v (.bool true))]] false)]] true)]] true)]] false) :=
  known_ofF tOk mixed fnsOk (B := []) trivial e143ok (n := 100000) (by kernel_rfl)
theorem k271 [Env] : Known Tryz.prog 60 [(.agg [x27, (i 0)]), (.agg [(.sl [[(i 0)]] true), (.sl [[(i 3)]] true), (.v (.bool false))])] (i 0) :=
  known_ofF tOk mixed fnsOk (B := [(95, [([(.agg [x27, (i 0)])], (i 0))]), (143, [([(.agg [x27, (i 0)]), (.agg [(.sl [[(i 0)]] false), (.sl [[(i 3)]] false), (.v (.bool false))])], x30), ([(.agg [x27, (i 0)]), (.agg [(.sl [[(i 4)]] true), (.sl [[(i 1)]] false), (.v (.bool false))])], nl), ([(.agg [x27, (i 0)]), (.agg [nl, (.sl [[(i 5)]] true), (.v (.bool false))])], nl), ([(.agg [x27, (i 0)]), (.agg [(.sl [[(i 4)]] true), nl, (.v (.bool false))])], x8), ([(.agg [x27, (i 0)]), (.agg [(.sl [[(i 2)]] false), (.sl [[(i 5)]] true), (.v (.bool false))])], nl), ([(.agg [x27, (i 0)]), (.agg [nl, nl, (.v (.bool false))])], x8), ([(.agg [x27, (i 0)]), (.agg [nl, nl, (.v (.bool true))])], (.sl [[(i 5), (i 0), nl], [(i 7), (i 0), (.sl [[(.sl [[(.sl [[nl, nl, (.v (.bool false))], [nl, nl, (.v (.bool true))]] false)]] true)]] true)]] false))])]) ⟨⟨k263, trivial⟩, ⟨k264, k265, k266, k267, k268, k269, k270, trivial⟩, trivial⟩ e60ok (n := 100000) (by kernel_rfl)
theorem k272 [Env] : Known Tryz.prog 28 [(.agg [x25, (i 0)]), (.agg [x26, (i 0)])] (.v (.bool true)) :=
  known_ofF tOk mixed fnsOk (B := [(95, [([(.agg [x25, (i 0)])], (i 0)), ([(.agg [x26, (i 0)])], (i 0))]), (60, [([(.agg [x27, (i 0)]), (.agg [(.sl [[(i 0)]] true), (.sl [[(i 3)]] true), (.v (.bool false))])], (i 0))])]) ⟨⟨k261, k262, trivial⟩, ⟨k271, trivial⟩, trivial⟩ e28ok (n := 100000) (by kernel_rfl)
theorem k273 [Env] : Known Tryz.prog 28 [(.agg [x26, (i 0)]), (.agg [x25, (i 0)])] (.v (.bool true)) :=
  known_ofF tOk mixed fnsOk (B := [(95, [([(.agg [x26, (i 0)])], (i 0)), ([(.agg [x25, (i 0)])], (i 0))]), (60, [([(.agg [x27, (i 0)]), (.agg [(.sl [[(i 0)]] true), (.sl [[(i 3)]] true), (.v (.bool false))])], (i 0))])]) ⟨⟨k262, k261, trivial⟩, ⟨k271, trivial⟩, trivial⟩ e28ok (n := 100000) (by kernel_rfl)
theorem k274 [Env] : Known Tryz.prog 5 [(.agg [x25, (i 0)]), (.agg [x26, (i 0)])] (.v (.bool true)) :=
  known_ofF tOk mixed fnsOk (B := [(28, [([(.agg [x25, (i 0)]), (.agg [x26, (i 0)])], (.v (.bool true))), ([(.agg [x26, (i 0)]), (.agg [x25, (i 0)])], (.v (.bool true)))])]) ⟨⟨k272, k273, trivial⟩, trivial⟩ e5ok (n := 100000) (by kernel_rfl)
theorem k275 [Env] : Known Tryz.prog 20 [(i 2)] (.agg [x31, (i 0)]) :=
  known_ofF tOk mixed fnsOk (B := []) trivial e20ok (n := 100000) (by kernel_rfl)
theorem k276 [Env] : Known Tryz.prog 21 [(i 2)] (.agg [x32, (i 0)]) :=
  known_ofF tOk mixed fnsOk (B := []) trivial e21ok (n := 100000) (by kernel_rfl)
theorem k277 [Env] : Known Tryz.prog 95 [(.agg [x31, (i 0)])] (i 0) :=
  known_ofF tOk mixed fnsOk (B := []) trivial e95ok (n := 100000) (by kernel_rfl)
theorem k278 [Env] : Known Tryz.prog 95 [(.agg [x32, (i 0)])] (i 0) :=
  known_ofF tOk mixed fnsOk (B := []) trivial e95ok (n := 100000) (by kernel_rfl)
theorem k279 [Env] : Known Tryz.prog 95 [(.agg [x33, (i 0)])] (i 0) :=
  known_ofF tOk mixed fnsOk (B := []) trivial e95ok (n := 100000) (by kernel_rfl)
theorem k280 [Env] : Known Tryz.prog 143 [(.agg [x33, (i 0)]), (.agg [(.sl [[(i 0)]] false), (.sl [[(i 4)]] false), (.v (.bool false))])] x36 :=
  known_ofF tOk mixed fnsOk (B := []) trivial e143ok (n := 100000) (by kernel_rfl)
theorem k281 [Env] : Known Tryz.prog 143 [(.agg [x33, (i 0)]), (.agg [(.sl [[(i 5)]] true), (.sl [[(i 1)]] false), (.v (.bool false))])] nl :=
  known_ofF tOk mixed fnsOk (B := []) trivial e143ok (n := 100000) (by kernel_rfl)
theorem k282 [Env] : Known Tryz.prog 143 [(.agg [x33, (i 0)]), (.agg [(.sl [[(i 5)]] true), nl, (.v (.bool false))])] x8 :=
  known_ofF tOk mixed fnsOk (B := []) trivial e143ok (n := 100000) (by kernel_rfl)
theorem k283 [Env] : Known Tryz.prog 143 [(.agg [x33, (i 0)]), (.agg [nl, (.sl [[(i 6)]] true), (.v (.bool false))])] nl :=
  known_ofF tOk mixed fnsOk (B := []) trivial e143ok (n := 100000) (by kernel_rfl)
theorem k284 [Env] : Known Tryz.prog 143 [(.agg [x33, (i 0)]), (.agg [(.sl [[(i 5)]] true), (.sl [[(i 2)]] false), (.v (.bool false))])] nl :=
  known_ofF tOk mixed fnsOk (B := []) trivial e143ok (n := 100000) (by kernel_rfl)
theorem k285 [Env] : Known Tryz.prog 143 [(.agg [x33, (i 0)]), (.agg [(.sl [[(i 3)]] false), (.sl [[(i 6)]] true), (.v (.bool false))])] nl :=
  known_ofF tOk mixed fnsOk (B := []) trivial e143ok (n := 100000) (by kernel_rfl)
theorem k286 [Env] : Known Tryz.prog 143 [(.agg [x33, (i 0)]), (.agg [nl, nl, (.v (.bool false))])] x8 :=
  known_ofF tOk mixed fnsOk (B := []) trivial e143ok (n := 100000) (by kernel_rfl)
theorem k287 [Env] : Known Tryz.prog 143 [(.agg [x33, (i 0)]), (.agg [nl, nl, (.v (.bool true))])] (.sl [[(i 5), (i 0), nl], [(i 7), (i 0), (.sl [[(.sl [[(.sl [[nl, nl, (.v (.bool false))], [nl, nl, (.v (.bool true))]] false)]] true)]] true)]] false) :=
  known_ofF tOk mixed fnsOk (B := []) trivial e143ok (n := 100000) (by kernel_rfl)
theorem k288 [Env] : Known Tryz.prog 60 [(.agg [x33, (i 0)]), (.agg [(.sl [[(i 0)]] true), (.sl [[(i 4)]] true), (.v (.bool false))])] (i 0) :=
  known_ofF tOk mixed fnsOk (B := [(95, [([(.agg [x33, (i 0)])], (i 0))]), (143, [([(.agg [x33, (i 0)]), (.agg [(.sl [[(i 0)]] false), (.sl [[(i 4)]] false), (.v (.bool false))])], x36), ([(.agg [x33, (i 0)]), (.agg [(.sl [[(i 5)]] true), (.sl [[(i 1)]] false), (.v (.bool false))])], nl), ([(.agg [x33, (i 0)]), (.agg [(.sl [[(i 5)]] true), nl, (.v (.bool false))])], x8), ([(.agg [x33, (i 0)]), (.agg [nl, (.sl [[(i 6)]] true), (.v (.bool false))])], nl), ([(.agg [x33, (i 0)]), (.agg [(.sl [[(i 5)]] true), (.sl [[(i 2)]] false), (.v (.bool false))])], nl), ([(.agg [x33, (i 0)]), (.agg [(.sl [[(i 3)]] false), (.sl [[(i 6)]] true), (.v (.bool false))])], nl), ([(.agg [x33, (i 0)]), (.agg [nl, nl, (.v (.bool false))])], x8), ([(.agg [x33, (i 0)]), (.agg [nl, nl, (.v (.bool true))])], (.sl [[(i 5), (i 0), nl], [(i 7), (i 0), (.sl [[(.sl [[(.sl [[nl, nl, (.v (.bool false))], [nl, nl, (.v (.bool true))]] false)]] true)]] true)]] false))])]) ⟨⟨k279, trivial⟩, ⟨k280, k281, k282, k283, k284, k285, k286, k287, trivial⟩, trivial⟩ e60ok (n := 100000) (by kernel_rfl)
theorem k289 [Env] : Known Tryz.prog 28 [(.agg [x31, (i 0)]), (.agg [x32, (i 0)])] (.v (.bool true)) :=
  known_ofF tOk mixed fnsOk (B := [(95, [([(.agg [x31, (i 0)])], (i 0)), ([(.agg [x32, (i 0)])], (i 0))]), (60, [([(.agg [x33, (i 0)]), (.agg [(.sl [[(i 0)]] true), (.sl [[(i 4)]] true), (.v (.bool false))])], (i 0))])]) ⟨⟨k277, k278, trivial⟩, ⟨k288, trivial⟩, trivial⟩ e28ok (n := 100000) (by kernel_rfl)
theorem k290 [Env] : Known Tryz.prog 95 [(.agg [x37, (i 0)])] (i 0) :=
  known_ofF tOk mixed fnsOk (B := []) trivial e95ok (n := 100000) (by kernel_rfl)
theorem k291 [Env] : Known Tryz.prog 143 [(.agg [x37, (i 0)]), (.agg [(.sl [[(i 0)]] false), (.sl [[(i 3)]] false), (.v (.bool false))])] x40 :=
  known_ofF tOk mixed fnsOk (B := []) trivial e143ok (n := 100000) (by kernel_rfl)
theorem k292 [Env] : Known Tryz.prog 143 [(.agg [x37, (i 0)]), (.agg [(.sl [[(i 4)]] true), (.sl [[(i 1)]] false), (.v (.bool false))])] nl :=
  known_ofF tOk mixed fnsOk (B := []) trivial e143ok (n := 100000) (by kernel_rfl)
theorem k293 [Env] : Known Tryz.prog 143 [(.agg [x37, (i 0)]), (.agg [(.sl [[(i 5)]] true), nl, (.v (.bool false))])] x8 :=
  known_ofF tOk mixed fnsOk (B := []) trivial e143ok (n := 100000) (by kernel_rfl)
theorem k294 [Env] : Known Tryz.prog 143 [(.agg [x37, (i 0)]), (.agg [nl, (.sl [[(i 6)]] true), (.v (.bool false))])] nl :=
  known_ofF tOk mixed fnsOk (B := []) trivial e143ok (n := 100000) (by kernel_rfl)
theorem k295 [Env] : Known Tryz.prog 143 [(.agg [x37, (i 0)]), (.agg [(.sl [[(i 4)]] true), nl, (.v (.bool false))])] x8 :=
  known_ofF tOk mixed fnsOk (B := []) trivial e143ok (n := 100000) (by kernel_rfl)
theorem k296 [Env] : Known Tryz.prog 143 [(.agg [x37, (i 0)]), (.agg [(.sl [[(i 5)]] true), (.sl [[(i 1)]] false), (.v (.bool false))])] nl :=
  known_ofF tOk mixed fnsOk (B := []) trivial e143ok (n := 100000) (by kernel_rfl)
theorem k297 [Env] : Known Tryz.prog 143 [(.agg [x37, (i 0)]), (.agg [(.sl [[(i 2)]] false), (.sl [[(i 6)]] true), (.v (.bool false))])] nl :=
  known_ofF tOk mixed fnsOk (B := []) trivial e143ok (n := 100000) (by kernel_rfl)
theorem k298 [Env] : Known Tryz.prog 143 [(.agg [x37, (i 0)]), (.agg [nl, nl, (.v (.bool false))])] x8 :=
  known_ofF tOk mixed fnsOk (B := []) trivial e143ok (n := 100000) (by kernel_rfl)
theorem k299 [Env] : Known Tryz.prog 143 [(.agg [x37, (i 0)]), (.agg [nl, nl, (.v (.bool true))])] (.sl [[(i 5), (i 0), nl], [(i 7), (i 0), (.sl [[(.sl [[(.sl [[nl, nl, (.v (.bool false))], [nl, nl, (.v (.bool true))]] false)]] true)]] true)]] false) :=
  known_ofF tOk mixed fnsOk (B := []) trivial e143ok (n := 100000) (by kernel_rfl)
theorem k300 [Env] : Known Tryz.prog 60 [(.agg [x37, (i 0)]), (.agg [(.sl [[(i 0)]] true), (.sl [[(i 3)]] true), (.v (.bool false))])] (i 0) :=
  known_ofF tOk mixed fnsOk (B := [(95, [([(.agg [x37, (i 0)])], (i 0))]), (143, [([(.agg [x37, (i 0)]), (.agg [(.sl [[(i 0)]] false), (.sl [[(i 3)]] false), (.v (.bool false))])], x40), ([(.agg [x37, (i 0)]), (.agg [(.sl [[(i 4)]] true), (.sl [[(i 1)]] false), (.v (.bool false))])], nl), ([(.agg [x37, (i 0)]), (.agg [(.sl [[(i 5)]] true), nl, (.v (.bool false))])], x8), ([(.agg [x37, (i 0)]), (.agg [nl, (.sl [[(i 6)]] true), (.v (.bool false))])], nl), ([(.agg [x37, (i 0)]), (.agg [(.sl [[(i 4)]] true), nl, (.v (.bool false))])], x8), ([(.agg [x37, (i 0)]), (.agg [(.sl [[(i 5)]] true), (.sl [[(i 1)]] false), (.v (.bool false))])], nl), ([(.agg [x37, (i 0)]), (.agg [(.sl [[(i 2)]] false), (.sl [[(i 6)]] true), (.v (.bool false))])], nl), ([(.agg [x37, (i 0)]), (.agg [nl, nl, (.v (.bool false))])], x8), ([(.agg [x37, (i 0)]), (.agg [nl, nl, (.v (.bool true))])], (.sl [[(i 5), (i 0), nl], [(i 7), (i 0), (.sl [[(.sl [[(.sl [[nl, nl, (.v (.bool false))], [nl, nl, (.v (.bool true))]] false)]] true)]] true)]] false))])]) ⟨⟨k290, trivial⟩, ⟨k291, k292, k293, k294, k295, k296, k297, k298, k299, trivial⟩, trivial⟩ e60ok (n := 100000) (by kernel_rfl)
theorem k301 [Env] : Known Tryz.prog 28 [(.agg [x32, (i 0)]), (.agg [x31, (i 0)])] (.v (.bool true)) :=
  known_ofF tOk mixed fnsOk (B := [(95, [([(.agg [x32, (i 0)])], (i 0)), ([(.agg [x31, (i 0)])], (i 0))]), (60, [([(.agg [x37, (i 0)]), (.agg [(.sl [[(i 0)]] true), (.sl [[(i 3)]] true), (.v (.bool false))])], (i 0))])]) ⟨⟨k278, k277, trivial⟩, ⟨k300, trivial⟩, trivial⟩ e28ok (n := 100000) (by kernel_rfl)
theorem k302 [Env] : Known Tryz.prog 5 [(.agg [x31, (i 0)]), (.agg [x32, (i 0)])] (.v (.bool true)) :=
  known_ofF tOk mixed fnsOk (B := [(28, [([(.agg [x31, (i 0)]), (.agg [x32, (i 0)])], (.v (.bool true))), ([(.agg [x32, (i 0)]), (.agg [x31, (i 0)])], (.v (.bool true)))])]) ⟨⟨k289, k301, trivial⟩, trivial⟩ e5ok (n := 100000) (by kernel_rfl)
theorem k303 [Env] : Known Tryz.prog 20 [(i 3)] (.agg [x41, (i 0)]) :=
  known_ofF tOk mixed fnsOk (B := []) trivial e20ok (n := 100000) (by kernel_rfl)
theorem k304 [Env] : Known Tryz.prog 21 [(i 3)] (.agg [x42, (i 0)]) :=
  known_ofF tOk mixed fnsOk (B := []) trivial e21ok (n := 100000) (by kernel_rfl)
theorem k305 [Env] : Known Tryz.prog 95 [(.agg [x41, (i 0)])] (i 0) :=
  known_ofF tOk mixed fnsOk (B := []) trivial e95ok (n := 100000) (by kernel_rfl)
theorem k306 [Env] : Known Tryz.prog 95 [(.agg [x42, (i 0)])] (i 0) :=
  known_ofF tOk mixed fnsOk (B := []) trivial e95ok (n := 100000) (by kernel_rfl)
theorem k307 [Env] : Known Tryz.prog 95 [(.agg [x43, (i 0)])] (i 0) :=
  known_ofF tOk mixed fnsOk (B := []) trivial e95ok (n := 100000) (by kernel_rfl)
theorem k308 [Env] : Known Tryz.prog 143 [(.agg [x43, (i 0)]), (.agg [(.sl [[(i 0)]] false), (.sl [[(i 5)]] false), (.v (.bool false))])] x50 :=
  known_ofF tOk mixed fnsOk (B := []) trivial e143ok (n := 100000) (by kernel_rfl)
theorem k309 [Env] : Known Tryz.prog 143 [(.agg [x43, (i 0)]), (.agg [(.sl [[(i 6)]] true), (.sl [[(i 1)]] false), (.v (.bool false))])] nl :=
  known_ofF tOk mixed fnsOk (B := []) trivial e143ok (n := 100000) (by kernel_rfl)
theorem k310 [Env] : Known Tryz.prog 143 [(.agg [x43, (i 0)]), (.agg [(.sl [[(i 6)]] true), nl, (.v (.bool false))])] x8 :=
  known_ofF tOk mixed fnsOk (B := []) trivial e143ok (n := 100000) (by kernel_rfl)
theorem k311 [Env] : Known Tryz.prog 143 [(.agg [x43, (i 0)]), (.agg [nl, (.sl [[(i 7)]] true), (.v (.bool false))])] nl :=
  known_ofF tOk mixed fnsOk (B := []) trivial e143ok (n := 100000) (by kernel_rfl)
theorem k312 [Env] : Known Tryz.prog 143 [(.agg [x43, (i 0)]), (.agg [(.sl [[(i 6)]] true), (.sl [[(i 2)]] false), (.v (.bool false))])] nl :=
  known_ofF tOk mixed fnsOk (B := []) trivial e143ok (n := 100000) (by kernel_rfl)
theorem k313 [Env] : Known Tryz.prog 143 [(.agg [x43, (i 0)]), (.agg [(.sl [[(i 6)]] true), (.sl [[(i 3)]] false), (.v (.bool false))])] nl :=
  known_ofF tOk mixed fnsOk (B := []) trivial e143ok (n := 100000) (by kernel_rfl)
theorem k314 [Env] : Known Tryz.prog 143 [(.agg [x43, (i 0)]), (.agg [(.sl [[(i 4)]] false), (.sl [[(i 7)]] true), (.v (.bool false))])] nl :=
  known_ofF tOk mixed fnsOk (B := []) trivial e143ok (n := 100000) (by kernel_rfl)
theorem k315 [Env] : Known Tryz.prog 143 [(.agg [x43, (i 0)]), (.agg [nl, nl, (.v (.bool false))])] x8 :=
  known_ofF tOk mixed fnsOk (B := []) trivial e143ok (n := 100000) (by kernel_rfl)
theorem k316 [Env] : Known Tryz.prog 143 [(.agg [x43, (i 0)]), (.agg [nl, nl, (.v (.bool true))])] (.sl [[(i 5), (i 0), nl], [(i 7), (i 0), (.sl [[(.sl [[(.sl [[nl, nl, (.v (.bool false))], [nl, nl, (.v (.bool true))]] false)]] true)]] true)]] false) :=
  known_ofF tOk mixed fnsOk (B := []) trivial e143ok (n := 100000) (by kernel_rfl)
theorem k317 [Env] : Known Tryz.prog 60 [(.agg [x43, (i 0)]), (.agg [(.sl [[(i 0)]] true), (.sl [[(i 5)]] true), (.v (.bool false))])] (i 0) :=
  known_ofF tOk mixed fnsOk (B := [(95, [([(.agg [x43, (i 0)])], (i 0))]), (143, [([(.agg [x43, (i 0)]), (.agg [(.sl [[(i 0)]] false), (.sl [[(i 5)]] false), (.v (.bool false))])], x50), ([(.agg [x43, (i 0)]), (.agg [(.sl [[(i 6)]] true), (.sl [[(i 1)]] false), (.v (.bool false))])], nl), ([(.agg [x43, (i 0)]), (.agg [(.sl [[(i 6)]] true), nl, (.v (.bool false))])], x8), ([(.agg [x43, (i 0)]), (.agg [nl, (.sl [[(i 7)]] true), (.v (.bool false))])], nl), ([(.agg [x43, (i 0)]), (.agg [(.sl [[(i 6)]] true), (.sl [[(i 2)]] false), (.v (.bool false))])], nl), ([(.agg [x43, (i 0)]), (.agg [(.sl [[(i 6)]] true), (.sl [[(i 3)]] false), (.v (.bool false))])], nl), ([(.agg [x43, (i 0)]), (.agg [(.sl [[(i 4)]] false), (.sl [[(i 7)]] true), (.v (.bool false))])], nl), ([(.agg [x43, (i 0)]), (.agg [nl, nl, (.v (.bool false))])], x8), ([(.agg [x43, (i 0)]), (.agg [nl, nl, (.v (.bool true))])], (.sl [[(i 5), (i 0), nl], [(i 7), (i 0), (.sl [[(.sl [[(.sl [[nl, nl, (.v (.bool false))], [nl, nl, (.v (.bool true))]] false)]] true)]] true)]] false))])]) ⟨⟨k307, trivial⟩, ⟨k308, k309, k310, k311, k312, k313, k314, k315, k316, trivial⟩, trivial⟩ e60ok (n := 100000) (by kernel_rfl)
theorem k318 [Env] : Known Tryz.prog 28 [(.agg [x41, (i 0)]), (.agg [x42, (i 0)])] (.v (.bool true)) :=
  known_ofF tOk mixed fnsOk (B := [(95, [([(.agg [x41, (i 0)])], (i 0)), ([(.agg [x42, (i 0)])], (i 0))]), (60, [([(.agg [x43, (i 0)]), (.agg [(.sl [[(i 0)]] true), (.sl [[(i 5)]] true), (.v (.bool false))])], (i 0))])]) ⟨⟨k305, k306, trivial⟩, ⟨k317, trivial⟩, trivial⟩ e28ok (n := 100000) (by kernel_rfl)
theorem k319 [Env] : Known Tryz.prog 95 [(.agg [x51, (i 0)])] (i 0) :=
  known_ofF tOk mixed fnsOk (B := []) trivial e95ok (n := 100000) (by kernel_rfl)
theorem k320 [Env] : Known Tryz.prog 143 [(.agg [x51, (i 0)]), (.agg [(.sl [[(i 0)]] false), (.sl [[(i 3)]] false), (.v (.bool false))])] x58 :=
  known_ofF tOk mixed fnsOk (B := []) trivial e143ok (n := 100000) (by kernel_rfl)
theorem k321 [Env] : Known Tryz.prog 143 [(.agg [x51, (i 0)]), (.agg [(.sl [[(i 4)]] true), (.sl [[(i 1)]] false), (.v (.bool false))])] nl :=
  known_ofF tOk mixed fnsOk (B := []) trivial e143ok (n := 100000) (by kernel_rfl)
theorem k322 [Env] : Known Tryz.prog 143 [(.agg [x51, (i 0)]), (.agg [(.sl [[(i 5)]] true), nl, (.v (.bool false))])] x8 :=
  known_ofF tOk mixed fnsOk (B := []) trivial e143ok (n := 100000) (by kernel_rfl)
theorem k323 [Env] : Known Tryz.prog 143 [(.agg [x51, (i 0)]), (.agg [(.sl [[(i 6)]] true), nl, (.v (.bool false))])] x8 :=
  known_ofF tOk mixed fnsOk (B := []) trivial e143ok (n := 100000) (by kernel_rfl)
theorem k324 [Env] : Known Tryz.prog 143 [(.agg [x51, (i 0)]), (.agg [nl, (.sl [[(i 7)]] true), (.v (.bool false))])] nl :=
  known_ofF tOk mixed fnsOk (B := []) trivial e143ok (n := 100000) (by kernel_rfl)
theorem k325 [Env] : Known Tryz.prog 143 [(.agg [x51, (i 0)]), (.agg [(.sl [[(i 4)]] true), nl, (.v (.bool false))])] x8 :=
  known_ofF tOk mixed fnsOk (B := []) trivial e143ok (n := 100000) (by kernel_rfl)
theorem k326 [Env] : Known Tryz.prog 143 [(.agg [x51, (i 0)]), (.agg [(.sl [[(i 5)]] true), (.sl [[(i 1)]] false), (.v (.bool false))])] nl :=
  known_ofF tOk mixed fnsOk (B := []) trivial e143ok (n := 100000) (by kernel_rfl)
theorem k327 [Env] : Known Tryz.prog 143 [(.agg [x51, (i 0)]), (.agg [(.sl [[(i 6)]] true), (.sl [[(i 1)]] false), (.v (.bool false))])] nl :=
  known_ofF tOk mixed fnsOk (B := []) trivial e143ok (n := 100000) (by kernel_rfl)
theorem k328 [Env] : Known Tryz.prog 143 [(.agg [x51, (i 0)]), (.agg [(.sl [[(i 2)]] false), (.sl [[(i 7)]] true), (.v (.bool false))])] nl :=
  known_ofF tOk mixed fnsOk (B := []) trivial e143ok (n := 100000) (by kernel_rfl)
theorem k329 [Env] : Known Tryz.prog 143 [(.agg [x51, (i 0)]), (.agg [nl, nl, (.v (.bool false))])] x8 :=
  known_ofF tOk mixed fnsOk (B := []) trivial e143ok (n := 100000) (by kernel_rfl)
theorem k330 [Env] : Known Tryz.prog 143 [(.agg [x51, (i 0)]), (.agg [nl, nl, (.v (.bool true))])] (.sl [[(i 5), (i 0), nl], [(i 7), (i 0), (.sl [[(.sl [[(.sl [[nl, nl, (.v (.bool false))], [nl, nl, (.v (.bool true))]] false)]] true)]] true)]] false) :=
  known_ofF tOk mixed fnsOk (B := []) trivial e143ok (n := 100000) (by kernel_rfl)
theorem k331 [Env] : Known Tryz.prog 60 [(.agg [x51, (i 0)]), (.agg [(.sl [[(i 0)]] true), (.sl [[(i 3)]] true), (.v (.bool false))])] (i 0) :=
  known_ofF tOk mixed fnsOk (B := [(95, [([(.agg [x51, (i 0)])], (i 0))]), (143, [([(.agg [x51, (i 0)]), (.agg [(.sl [[(i 0)]] false), (.sl [[(i 3)]] false), (.v (.bool false))])], x58), ([(.agg [x51, (i 0)]), (.agg [(.sl [[(i 4)]] true), (.sl [[(i 1)]] false), (.v (.bool false))])], nl), ([(.agg [x51, (i 0)]), (.agg [(.sl [[(i 5)]] true), nl, (.v (.bool false))])], x8), ([(.agg [x51, (i 0)]), (.agg [(.sl [[(i 6)]] true), nl, (.v (.bool false))])], x8), ([(.agg [x51, (i 0)]), (.agg [nl, (.sl [[(i 7)]] true), (.v (.bool false))])], nl), ([(.agg [x51, (i 0)]), (.agg [(.sl [[(i 4)]] true), nl, (.v (.bool false))])], x8), ([(.agg [x51, (i 0)]), (.agg [(.sl [[(i 5)]] true), (.sl [[(i 1)]] false), (.v (.bool false))])], nl), ([(.agg [x51, (i 0)]), (.agg [(.sl [[(i 6)]] true), (.sl [[(i 1)]] false), (.v (.bool false))])], nl), ([(.agg [x51, (i 0)]), (.agg [(.sl [[(i 2)]] false), (.sl [[(i 7)]] true), (.v (.bool false))])], nl), ([(.agg [x51, (i 0)]), (.agg [nl, nl, (.v (.bool false))])], x8), ([(.agg [x51, (i 0)]), (.agg [nl, nl, (.v (.bool true))])], (.sl [[(i 5), (i 0), nl], [(i 7), (i 0), (.sl [[(.sl [[(.sl [[nl, nl, (.v (.bool false))], [nl, nl, (.v (.bool true))]] false)]] true)]] true)]] false))])]) ⟨⟨k319, trivial⟩, ⟨k320, k321, k322, k323, k324, k325, k326, k327, k328, k329, k330, trivial⟩, trivial⟩ e60ok (n := 100000) (by kernel_rfl)
end Go.Ev
