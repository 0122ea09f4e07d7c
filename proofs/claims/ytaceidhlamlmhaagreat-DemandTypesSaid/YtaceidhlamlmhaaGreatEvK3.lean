/- Calls that are known, by running them. -/
import Derived.Test.YtaceidhlamlmhaaGreatEvVal
import Derived.Test.YtaceidhlamlmhaaGreatEvK2
set_option linter.all false
namespace Go.Ev
open Go.Proofs
theorem k332 [Env] : Known Tryz.prog 28 [(.agg [x42, (i 0)]), (.agg [x41, (i 0)])] (.v (.bool true)) :=
  known_ofF tOk mixed fnsOk (B := [(95, [([(.agg [x42, (i 0)])], (i 0)), ([(.agg [x41, (i 0)])], (i 0))]), (60, [([(.agg [x51, (i 0)]), (.agg [(.sl [[(i 0)]] true), (.sl [[(i 3)]] true), (.v (.bool false))])], (i 0))])]) ⟨⟨k306, k305, trivial⟩, ⟨k331, trivial⟩, trivial⟩ e28ok (n := 100000) (by kernel_rfl)
theorem k333 [Env] : Known Tryz.prog 5 [(.agg [x41, (i 0)]), (.agg [x42, (i 0)])] (.v (.bool true)) :=
  known_ofF tOk mixed fnsOk (B := [(28, [([(.agg [x41, (i 0)]), (.agg [x42, (i 0)])], (.v (.bool true))), ([(.agg [x42, (i 0)]), (.agg [x41, (i 0)])], (.v (.bool true)))])]) ⟨⟨k318, k332, trivial⟩, trivial⟩ e5ok (n := 100000) (by kernel_rfl)
theorem k334 [Env] : Known Tryz.prog 20 [(i 4)] (.agg [x59, (i 0)]) :=
  known_ofF tOk mixed fnsOk (B := []) trivial e20ok (n := 100000) (by kernel_rfl)
theorem k335 [Env] : Known Tryz.prog 21 [(i 4)] (.agg [x60, (i 0)]) :=
  known_ofF tOk mixed fnsOk (B := []) trivial e21ok (n := 100000) (by kernel_rfl)
theorem k336 [Env] : Known Tryz.prog 95 [(.agg [x59, (i 0)])] (i 0) :=
  known_ofF tOk mixed fnsOk (B := []) trivial e95ok (n := 100000) (by kernel_rfl)
theorem k337 [Env] : Known Tryz.prog 95 [(.agg [x60, (i 0)])] (i 0) :=
  known_ofF tOk mixed fnsOk (B := []) trivial e95ok (n := 100000) (by kernel_rfl)
theorem k338 [Env] : Known Tryz.prog 95 [(.agg [x61, (i 0)])] (i 0) :=
  known_ofF tOk mixed fnsOk (B := []) trivial e95ok (n := 100000) (by kernel_rfl)
theorem k339 [Env] : Known Tryz.prog 143 [(.agg [x61, (i 0)]), (.agg [(.sl [[(i 0)]] false), (.sl [[(i 6)]] false), (.v (.bool false))])] x73 :=
  known_ofF tOk mixed fnsOk (B := []) trivial e143ok (n := 100000) (by kernel_rfl)
theorem k340 [Env] : Known Tryz.prog 143 [(.agg [x61, (i 0)]), (.agg [(.sl [[(i 7)]] true), (.sl [[(i 1)]] false), (.v (.bool false))])] nl :=
  known_ofF tOk mixed fnsOk (B := []) trivial e143ok (n := 100000) (by kernel_rfl)
theorem k341 [Env] : Known Tryz.prog 143 [(.agg [x61, (i 0)]), (.agg [(.sl [[(i 7)]] true), nl, (.v (.bool false))])] x8 :=
  known_ofF tOk mixed fnsOk (B := []) trivial e143ok (n := 100000) (by kernel_rfl)
theorem k342 [Env] : Known Tryz.prog 143 [(.agg [x61, (i 0)]), (.agg [nl, (.sl [[(i 8)]] true), (.v (.bool false))])] nl :=
  known_ofF tOk mixed fnsOk (B := []) trivial e143ok (n := 100000) (by kernel_rfl)
theorem k343 [Env] : Known Tryz.prog 143 [(.agg [x61, (i 0)]), (.agg [(.sl [[(i 7)]] true), (.sl [[(i 2)]] false), (.v (.bool false))])] nl :=
  known_ofF tOk mixed fnsOk (B := []) trivial e143ok (n := 100000) (by kernel_rfl)
theorem k344 [Env] : Known Tryz.prog 143 [(.agg [x61, (i 0)]), (.agg [(.sl [[(i 7)]] true), (.sl [[(i 3)]] false), (.v (.bool false))])] nl :=
  known_ofF tOk mixed fnsOk (B := []) trivial e143ok (n := 100000) (by kernel_rfl)
theorem k345 [Env] : Known Tryz.prog 143 [(.agg [x61, (i 0)]), (.agg [(.sl [[(i 7)]] true), (.sl [[(i 4)]] false), (.v (.bool false))])] nl :=
  known_ofF tOk mixed fnsOk (B := []) trivial e143ok (n := 100000) (by kernel_rfl)
theorem k346 [Env] : Known Tryz.prog 143 [(.agg [x61, (i 0)]), (.agg [(.sl [[(i 5)]] false), (.sl [[(i 8)]] true), (.v (.bool false))])] nl :=
  known_ofF tOk mixed fnsOk (B := []) trivial e143ok (n := 100000) (by kernel_rfl)
theorem k347 [Env] : Known Tryz.prog 143 [(.agg [x61, (i 0)]), (.agg [nl, nl, (.v (.bool false))])] x8 :=
  known_ofF tOk mixed fnsOk (B := []) trivial e143ok (n := 100000) (by kernel_rfl)
theorem k348 [Env] : Known Tryz.prog 143 [(.agg [x61, (i 0)]), (.agg [nl, nl, (.v (.bool true))])] (.sl [[(i 5), (i 0), nl], [(i 7), (i 0), (.sl [[(.sl [[(.sl [[nl, nl, (.v (.bool false))], [nl, nl, (.v (.bool true))]] false)]] true)]] true)]] false) :=
  known_ofF tOk mixed fnsOk (B := []) trivial e143ok (n := 100000) (by kernel_rfl)
theorem k349 [Env] : Known Tryz.prog 60 [(.agg [x61, (i 0)]), (.agg [(.sl [[(i 0)]] true), (.sl [[(i 6)]] true), (.v (.bool false))])] (i 0) :=
  known_ofF tOk mixed fnsOk (B := [(95, [([(.agg [x61, (i 0)])], (i 0))]), (143, [([(.agg [x61, (i 0)]), (.agg [(.sl [[(i 0)]] false), (.sl [[(i 6)]] false), (.v (.bool false))])], x73), ([(.agg [x61, (i 0)]), (.agg [(.sl [[(i 7)]] true), (.sl [[(i 1)]] false), (.v (.bool false))])], nl), ([(.agg [x61, (i 0)]), (.agg [(.sl [[(i 7)]] true), nl, (.v (.bool false))])], x8), ([(.agg [x61, (i 0)]), (.agg [nl, (.sl [[(i 8)]] true), (.v (.bool false))])], nl), ([(.agg [x61, (i 0)]), (.agg [(.sl [[(i 7)]] true), (.sl [[(i 2)]] false), (.v (.bool false))])], nl), ([(.agg [x61, (i 0)]), (.agg [(.sl [[(i 7)]] true), (.sl [[(i 3)]] false), (.v (.bool false))])], nl), ([(.agg [x61, (i 0)]), (.agg [(.sl [[(i 7)]] true), (.sl [[(i 4)]] false), (.v (.bool false))])], nl), ([(.agg [x61, (i 0)]), (.agg [(.sl [[(i 5)]] false), (.sl [[(i 8)]] true), (.v (.bool false))])], nl), ([(.agg [x61, (i 0)]), (.agg [nl, nl, (.v (.bool false))])], x8), ([(.agg [x61, (i 0)]), (.agg [nl, nl, (.v (.bool true))])], (.sl [[(i 5), (i 0), nl], [(i 7), (i 0), (.sl [[(.sl [[(.sl [[nl, nl, (.v (.bool false))], [nl, nl, (.v (.bool true))]] false)]] true)]] true)]] false))])]) ⟨⟨k338, trivial⟩, ⟨k339, k340, k341, k342, k343, k344, k345, k346, k347, k348, trivial⟩, trivial⟩ e60ok (n := 100000) (by kernel_rfl)
theorem k350 [Env] : Known Tryz.prog 28 [(.agg [x59, (i 0)]), (.agg [x60, (i 0)])] (.v (.bool true)) :=
  known_ofF tOk mixed fnsOk (B := [(95, [([(.agg [x59, (i 0)])], (i 0)), ([(.agg [x60, (i 0)])], (i 0))]), (60, [([(.agg [x61, (i 0)]), (.agg [(.sl [[(i 0)]] true), (.sl [[(i 6)]] true), (.v (.bool false))])], (i 0))])]) ⟨⟨k336, k337, trivial⟩, ⟨k349, trivial⟩, trivial⟩ e28ok (n := 100000) (by kernel_rfl)
theorem k351 [Env] : Known Tryz.prog 95 [(.agg [x74, (i 0)])] (i 0) :=
  known_ofF tOk mixed fnsOk (B := []) trivial e95ok (n := 100000) (by kernel_rfl)
theorem k352 [Env] : Known Tryz.prog 143 [(.agg [x74, (i 0)]), (.agg [(.sl [[(i 0)]] false), (.sl [[(i 3)]] false), (.v (.bool false))])] x86 :=
  known_ofF tOk mixed fnsOk (B := []) trivial e143ok (n := 100000) (by kernel_rfl)
theorem k353 [Env] : Known Tryz.prog 143 [(.agg [x74, (i 0)]), (.agg [(.sl [[(i 4)]] true), (.sl [[(i 1)]] false), (.v (.bool false))])] nl :=
  known_ofF tOk mixed fnsOk (B := []) trivial e143ok (n := 100000) (by kernel_rfl)
theorem k354 [Env] : Known Tryz.prog 143 [(.agg [x74, (i 0)]), (.agg [(.sl [[(i 5)]] true), nl, (.v (.bool false))])] x8 :=
  known_ofF tOk mixed fnsOk (B := []) trivial e143ok (n := 100000) (by kernel_rfl)
theorem k355 [Env] : Known Tryz.prog 143 [(.agg [x74, (i 0)]), (.agg [(.sl [[(i 6)]] true), nl, (.v (.bool false))])] x8 :=
  known_ofF tOk mixed fnsOk (B := []) trivial e143ok (n := 100000) (by kernel_rfl)
theorem k356 [Env] : Known Tryz.prog 143 [(.agg [x74, (i 0)]), (.agg [(.sl [[(i 7)]] true), nl, (.v (.bool false))])] x8 :=
  known_ofF tOk mixed fnsOk (B := []) trivial e143ok (n := 100000) (by kernel_rfl)
theorem k357 [Env] : Known Tryz.prog 143 [(.agg [x74, (i 0)]), (.agg [nl, (.sl [[(i 8)]] true), (.v (.bool false))])] nl :=
  known_ofF tOk mixed fnsOk (B := []) trivial e143ok (n := 100000) (by kernel_rfl)
theorem k358 [Env] : Known Tryz.prog 143 [(.agg [x74, (i 0)]), (.agg [(.sl [[(i 4)]] true), nl, (.v (.bool false))])] x8 :=
  known_ofF tOk mixed fnsOk (B := []) trivial e143ok (n := 100000) (by kernel_rfl)
theorem k359 [Env] : Known Tryz.prog 143 [(.agg [x74, (i 0)]), (.agg [(.sl [[(i 5)]] true), (.sl [[(i 1)]] false), (.v (.bool false))])] nl :=
  known_ofF tOk mixed fnsOk (B := []) trivial e143ok (n := 100000) (by kernel_rfl)
theorem k360 [Env] : Known Tryz.prog 143 [(.agg [x74, (i 0)]), (.agg [(.sl [[(i 6)]] true), (.sl [[(i 1)]] false), (.v (.bool false))])] nl :=
  known_ofF tOk mixed fnsOk (B := []) trivial e143ok (n := 100000) (by kernel_rfl)
theorem k361 [Env] : Known Tryz.prog 143 [(.agg [x74, (i 0)]), (.agg [(.sl [[(i 7)]] true), (.sl [[(i 1)]] false), (.v (.bool false))])] nl :=
  known_ofF tOk mixed fnsOk (B := []) trivial e143ok (n := 100000) (by kernel_rfl)
theorem k362 [Env] : Known Tryz.prog 143 [(.agg [x74, (i 0)]), (.agg [(.sl [[(i 2)]] false), (.sl [[(i 8)]] true), (.v (.bool false))])] nl :=
  known_ofF tOk mixed fnsOk (B := []) trivial e143ok (n := 100000) (by kernel_rfl)
theorem k363 [Env] : Known Tryz.prog 143 [(.agg [x74, (i 0)]), (.agg [nl, nl, (.v (.bool false))])] x8 :=
  known_ofF tOk mixed fnsOk (B := []) trivial e143ok (n := 100000) (by kernel_rfl)
theorem k364 [Env] : Known Tryz.prog 143 [(.agg [x74, (i 0)]), (.agg [nl, nl, (.v (.bool true))])] (.sl [[(i 5), (i 0), nl], [(i 7), (i 0), (.sl [[(.sl [[(.sl [[nl, nl, (.v (.bool false))], [nl, nl, (.v (.bool true))]] false)]] true)]] true)]] false) :=
  known_ofF tOk mixed fnsOk (B := []) trivial e143ok (n := 100000) (by kernel_rfl)
theorem k365 [Env] : Known Tryz.prog 60 [(.agg [x74, (i 0)]), (.agg [(.sl [[(i 0)]] true), (.sl [[(i 3)]] true), (.v (.bool false))])] (i 0) :=
  known_ofF tOk mixed fnsOk (B := [(95, [([(.agg [x74, (i 0)])], (i 0))]), (143, [([(.agg [x74, (i 0)]), (.agg [(.sl [[(i 0)]] false), (.sl [[(i 3)]] false), (.v (.bool false))])], x86), ([(.agg [x74, (i 0)]), (.agg [(.sl [[(i 4)]] true), (.sl [[(i 1)]] false), (.v (.bool false))])], nl), ([(.agg [x74, (i 0)]), (.agg [(.sl [[(i 5)]] true), nl, (.v (.bool false))])], x8), ([(.agg [x74, (i 0)]), (.agg [(.sl [[(i 6)]] true), nl, (.v (.bool false))])], x8), ([(.agg [x74, (i 0)]), (.agg [(.sl [[(i 7)]] true), nl, (.v (.bool false))])], x8), ([(.agg [x74, (i 0)]), (.agg [nl, (.sl [[(i 8)]] true), (.v (.bool false))])], nl), ([(.agg [x74, (i 0)]), (.agg [(.sl [[(i 4)]] true), nl, (.v (.bool false))])], x8), ([(.agg [x74, (i 0)]), (.agg [(.sl [[(i 5)]] true), (.sl [[(i 1)]] false), (.v (.bool false))])], nl), ([(.agg [x74, (i 0)]), (.agg [(.sl [[(i 6)]] true), (.sl [[(i 1)]] false), (.v (.bool false))])], nl), ([(.agg [x74, (i 0)]), (.agg [(.sl [[(i 7)]] true), (.sl [[(i 1)]] false), (.v (.bool false))])], nl), ([(.agg [x74, (i 0)]), (.agg [(.sl [[(i 2)]] false), (.sl [[(i 8)]] true), (.v (.bool false))])], nl), ([(.agg [x74, (i 0)]), (.agg [nl, nl, (.v (.bool false))])], x8), ([(.agg [x74, (i 0)]), (.agg [nl, nl, (.v (.bool true))])], (.sl [[(i 5), (i 0), nl], [(i 7), (i 0), (.sl [[(.sl [[(.sl [[nl, nl, (.v (.bool false))], [nl, nl, (.v (.bool true))]] false)]] true)]] true)]] false))])]) ⟨⟨k351, trivial⟩, ⟨k352, k353, k354, k355, k356, k357, k358, k359, k360, k361, k362, k363, k364, trivial⟩, trivial⟩ e60ok (n := 100000) (by kernel_rfl)
theorem k366 [Env] : Known Tryz.prog 28 [(.agg [x60, (i 0)]), (.agg [x59, (i 0)])] (.v (.bool true)) :=
  known_ofF tOk mixed fnsOk (B := [(95, [([(.agg [x60, (i 0)])], (i 0)), ([(.agg [x59, (i 0)])], (i 0))]), (60, [([(.agg [x74, (i 0)]), (.agg [(.sl [[(i 0)]] true), (.sl [[(i 3)]] true), (.v (.bool false))])], (i 0))])]) ⟨⟨k337, k336, trivial⟩, ⟨k365, trivial⟩, trivial⟩ e28ok (n := 100000) (by kernel_rfl)
theorem k367 [Env] : Known Tryz.prog 5 [(.agg [x59, (i 0)]), (.agg [x60, (i 0)])] (.v (.bool true)) :=
  known_ofF tOk mixed fnsOk (B := [(28, [([(.agg [x59, (i 0)]), (.agg [x60, (i 0)])], (.v (.bool true))), ([(.agg [x60, (i 0)]), (.agg [x59, (i 0)])], (.v (.bool true)))])]) ⟨⟨k350, k366, trivial⟩, trivial⟩ e5ok (n := 100000) (by kernel_rfl)
theorem k368 [Env] : Known Tryz.prog 20 [(i 5)] (.agg [(.sl [[(i 1), (i 0), (i 0), (sb []), nl, nl, (i 0), (i 0)]] true), (i 0)]) :=
  known_ofF tOk mixed fnsOk (B := []) trivial e20ok (n := 100000) (by kernel_rfl)
theorem k369 [Env] : Known Tryz.prog 21 [(i 5)] (.agg [(.sl [[(i 1), (i 0), (i 0), (sb []), nl, nl, (i 0), (i 0)]] true), (i 0)]) :=
  known_ofF tOk mixed fnsOk (B := []) trivial e21ok (n := 100000) (by kernel_rfl)
theorem k370 [Env] : Known Tryz.prog 20 [(i 6)] (.agg [(.sl [[(i 1), (i 0), (i 0), (sb []), nl, nl, (i 0), (i 0)]] true), (i 0)]) :=
  known_ofF tOk mixed fnsOk (B := []) trivial e20ok (n := 100000) (by kernel_rfl)
theorem k371 [Env] : Known Tryz.prog 21 [(i 6)] (.agg [(.sl [[(i 1), (i 0), (i 0), (sb []), nl, nl, (i 0), (i 0)]] true), (i 0)]) :=
  known_ofF tOk mixed fnsOk (B := []) trivial e21ok (n := 100000) (by kernel_rfl)
theorem k372 [Env] : Known Tryz.prog 20 [(i 7)] (.agg [(.sl [[(i 1), (i 0), (i 0), (sb []), nl, nl, (i 0), (i 0)]] true), (i 0)]) :=
  known_ofF tOk mixed fnsOk (B := []) trivial e20ok (n := 100000) (by kernel_rfl)
theorem k373 [Env] : Known Tryz.prog 21 [(i 7)] (.agg [(.sl [[(i 1), (i 0), (i 0), (sb []), nl, nl, (i 0), (i 0)]] true), (i 0)]) :=
  known_ofF tOk mixed fnsOk (B := []) trivial e21ok (n := 100000) (by kernel_rfl)
theorem k374 [Env] : Known Tryz.prog 20 [(i 8)] (.agg [(.sl [[(i 1), (i 0), (i 0), (sb []), nl, nl, (i 0), (i 0)]] true), (i 0)]) :=
  known_ofF tOk mixed fnsOk (B := []) trivial e20ok (n := 100000) (by kernel_rfl)
theorem k375 [Env] : Known Tryz.prog 21 [(i 8)] (.agg [(.sl [[(i 1), (i 0), (i 0), (sb []), nl, nl, (i 0), (i 0)]] true), (i 0)]) :=
  known_ofF tOk mixed fnsOk (B := []) trivial e21ok (n := 100000) (by kernel_rfl)
theorem k376 [Env] : Known Tryz.prog 20 [(i 9)] (.agg [(.sl [[(i 1), (i 0), (i 0), (sb []), nl, nl, (i 0), (i 0)]] true), (i 0)]) :=
  known_ofF tOk mixed fnsOk (B := []) trivial e20ok (n := 100000) (by kernel_rfl)
theorem k377 [Env] : Known Tryz.prog 21 [(i 9)] (.agg [(.sl [[(i 1), (i 0), (i 0), (sb []), nl, nl, (i 0), (i 0)]] true), (i 0)]) :=
  known_ofF tOk mixed fnsOk (B := []) trivial e21ok (n := 100000) (by kernel_rfl)
end Go.Ev
