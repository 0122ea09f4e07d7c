/- Calls that are known, by running them. -/
import Derived.Test.YtaceidhlamlmhaaGreatEvVal
set_option linter.all false
namespace Go.Ev
open Go.Proofs
theorem k378 [Env] : Known Tryz.prog 18 [(j 8)] (.agg [(.sl [[(i 1), (i 0), (i 0), (sb []), nl, nl, (i 0), (i 0)]] true), (i 0)]) :=
  known_ofF tOk mixed fnsOk (B := []) trivial e18ok (n := 100000) (by kernel_rfl)
theorem k379 [Env] : Known Tryz.prog 19 [(j 8)] (.agg [(.sl [[(i 1), (i 0), (i 0), (sb []), nl, nl, (i 0), (i 0)]] true), (i 0)]) :=
  known_ofF tOk mixed fnsOk (B := []) trivial e19ok (n := 100000) (by kernel_rfl)
theorem k380 [Env] : Known Tryz.prog 18 [(j 7)] (.agg [(.sl [[(i 1), (i 0), (i 0), (sb []), nl, nl, (i 0), (i 0)]] true), (i 0)]) :=
  known_ofF tOk mixed fnsOk (B := []) trivial e18ok (n := 100000) (by kernel_rfl)
theorem k381 [Env] : Known Tryz.prog 19 [(j 7)] (.agg [(.sl [[(i 1), (i 0), (i 0), (sb []), nl, nl, (i 0), (i 0)]] true), (i 0)]) :=
  known_ofF tOk mixed fnsOk (B := []) trivial e19ok (n := 100000) (by kernel_rfl)
theorem k382 [Env] : Known Tryz.prog 18 [(j 6)] (.agg [(.sl [[(i 1), (i 0), (i 0), (sb []), nl, nl, (i 0), (i 0)]] true), (i 0)]) :=
  known_ofF tOk mixed fnsOk (B := []) trivial e18ok (n := 100000) (by kernel_rfl)
theorem k383 [Env] : Known Tryz.prog 19 [(j 6)] (.agg [(.sl [[(i 1), (i 0), (i 0), (sb []), nl, nl, (i 0), (i 0)]] true), (i 0)]) :=
  known_ofF tOk mixed fnsOk (B := []) trivial e19ok (n := 100000) (by kernel_rfl)
theorem k384 [Env] : Known Tryz.prog 18 [(j 5)] (.agg [(.sl [[(i 1), (i 0), (i 0), (sb []), nl, nl, (i 0), (i 0)]] true), (i 0)]) :=
  known_ofF tOk mixed fnsOk (B := []) trivial e18ok (n := 100000) (by kernel_rfl)
theorem k385 [Env] : Known Tryz.prog 19 [(j 5)] (.agg [(.sl [[(i 1), (i 0), (i 0), (sb []), nl, nl, (i 0), (i 0)]] true), (i 0)]) :=
  known_ofF tOk mixed fnsOk (B := []) trivial e19ok (n := 100000) (by kernel_rfl)
theorem k386 [Env] : Known Tryz.prog 18 [(j 4)] (.agg [(.sl [[(i 1), (i 0), (i 0), (sb []), nl, nl, (i 0), (i 0)]] true), (i 0)]) :=
  known_ofF tOk mixed fnsOk (B := []) trivial e18ok (n := 100000) (by kernel_rfl)
theorem k387 [Env] : Known Tryz.prog 19 [(j 4)] (.agg [(.sl [[(i 1), (i 0), (i 0), (sb []), nl, nl, (i 0), (i 0)]] true), (i 0)]) :=
  known_ofF tOk mixed fnsOk (B := []) trivial e19ok (n := 100000) (by kernel_rfl)
theorem k388 [Env] : Known Tryz.prog 18 [(j 3)] (.agg [(.sl [[(i 1), (i 0), (i 0), (sb []), nl, nl, (i 0), (i 0)]] true), (i 0)]) :=
  known_ofF tOk mixed fnsOk (B := []) trivial e18ok (n := 100000) (by kernel_rfl)
theorem k389 [Env] : Known Tryz.prog 19 [(j 3)] (.agg [(.sl [[(i 1), (i 0), (i 0), (sb []), nl, nl, (i 0), (i 0)]] true), (i 0)]) :=
  known_ofF tOk mixed fnsOk (B := []) trivial e19ok (n := 100000) (by kernel_rfl)
theorem k390 [Env] : Known Tryz.prog 18 [(j 2)] (.agg [(.sl [[(i 1), (i 0), (i 0), (sb []), nl, nl, (i 0), (i 0)]] true), (i 0)]) :=
  known_ofF tOk mixed fnsOk (B := []) trivial e18ok (n := 100000) (by kernel_rfl)
theorem k391 [Env] : Known Tryz.prog 19 [(j 2)] (.agg [(.sl [[(i 1), (i 0), (i 0), (sb []), nl, nl, (i 0), (i 0)]] true), (i 0)]) :=
  known_ofF tOk mixed fnsOk (B := []) trivial e19ok (n := 100000) (by kernel_rfl)
theorem k392 [Env] : Known Tryz.prog 18 [(j 1)] (.agg [(.sl [[(i 1), (i 0), (i 0), (sb []), nl, nl, (i 0), (i 0)]] true), (i 0)]) :=
  known_ofF tOk mixed fnsOk (B := []) trivial e18ok (n := 100000) (by kernel_rfl)
theorem k393 [Env] : Known Tryz.prog 19 [(j 1)] (.agg [(.sl [[(i 1), (i 0), (i 0), (sb []), nl, nl, (i 0), (i 0)]] true), (i 0)]) :=
  known_ofF tOk mixed fnsOk (B := []) trivial e19ok (n := 100000) (by kernel_rfl)
theorem k394 [Env] : Known Tryz.prog 18 [(j 0)] (.agg [(.sl [[(i 1), (i 0), (i 0), (sb []), nl, nl, (i 0), (i 0)]] true), (i 0)]) :=
  known_ofF tOk mixed fnsOk (B := []) trivial e18ok (n := 100000) (by kernel_rfl)
theorem k395 [Env] : Known Tryz.prog 19 [(j 0)] (.agg [(.sl [[(i 1), (i 0), (i 0), (sb []), nl, nl, (i 0), (i 0)]] true), (i 0)]) :=
  known_ofF tOk mixed fnsOk (B := []) trivial e19ok (n := 100000) (by kernel_rfl)
theorem k396 [Env] : Known Tryz.prog 18 [(i 1)] (.agg [x87, (i 0)]) :=
  known_ofF tOk mixed fnsOk (B := []) trivial e18ok (n := 100000) (by kernel_rfl)
theorem k397 [Env] : Known Tryz.prog 19 [(i 1)] (.agg [x88, (i 0)]) :=
  known_ofF tOk mixed fnsOk (B := []) trivial e19ok (n := 100000) (by kernel_rfl)
theorem k398 [Env] : Known Tryz.prog 95 [(.agg [x87, (i 0)])] (i 0) :=
  known_ofF tOk mixed fnsOk (B := []) trivial e95ok (n := 100000) (by kernel_rfl)
theorem k399 [Env] : Known Tryz.prog 95 [(.agg [x88, (i 0)])] (i 0) :=
  known_ofF tOk mixed fnsOk (B := []) trivial e95ok (n := 100000) (by kernel_rfl)
theorem k400 [Env] : Known Tryz.prog 95 [(.agg [x89, (i 0)])] (i 0) :=
  known_ofF tOk mixed fnsOk (B := []) trivial e95ok (n := 100000) (by kernel_rfl)
theorem k401 [Env] : Known Tryz.prog 143 [(.agg [x89, (i 0)]), (.agg [(.sl [[(i 0)]] false), (.sl [[(i 3)]] false), (.v (.bool false))])] x30 :=
  known_ofF tOk mixed fnsOk (B := []) trivial e143ok (n := 100000) (by kernel_rfl)
theorem k402 [Env] : Known Tryz.prog 143 [(.agg [x89, (i 0)]), (.agg [(.sl [[(i 4)]] true), (.sl [[(i 1)]] false), (.v (.bool false))])] nl :=
  known_ofF tOk mixed fnsOk (B := []) trivial e143ok (n := 100000) (by kernel_rfl)
theorem k403 [Env] : Known Tryz.prog 143 [(.agg [x89, (i 0)]), (.agg [nl, (.sl [[(i 5)]] true), (.v (.bool false))])] nl :=
  known_ofF tOk mixed fnsOk (B := []) trivial e143ok (n := 100000) (by kernel_rfl)
theorem k404 [Env] : Known Tryz.prog 143 [(.agg [x89, (i 0)]), (.agg [(.sl [[(i 4)]] true), nl, (.v (.bool false))])] nl :=
  known_ofF tOk mixed fnsOk (B := []) trivial e143ok (n := 100000) (by kernel_rfl)
theorem k405 [Env] : Known Tryz.prog 143 [(.agg [x89, (i 0)]), (.agg [(.sl [[(i 2)]] false), (.sl [[(i 5)]] true), (.v (.bool false))])] nl :=
  known_ofF tOk mixed fnsOk (B := []) trivial e143ok (n := 100000) (by kernel_rfl)
theorem k406 [Env] : Known Tryz.prog 60 [(.agg [x89, (i 0)]), (.agg [(.sl [[(i 0)]] true), (.sl [[(i 3)]] true), (.v (.bool false))])] (i 0) :=
  known_ofF tOk mixed fnsOk (B := [(95, [([(.agg [x89, (i 0)])], (i 0))]), (143, [([(.agg [x89, (i 0)]), (.agg [(.sl [[(i 0)]] false), (.sl [[(i 3)]] false), (.v (.bool false))])], x30), ([(.agg [x89, (i 0)]), (.agg [(.sl [[(i 4)]] true), (.sl [[(i 1)]] false), (.v (.bool false))])], nl), ([(.agg [x89, (i 0)]), (.agg [nl, (.sl [[(i 5)]] true), (.v (.bool false))])], nl), ([(.agg [x89, (i 0)]), (.agg [(.sl [[(i 4)]] true), nl, (.v (.bool false))])], nl), ([(.agg [x89, (i 0)]), (.agg [(.sl [[(i 2)]] false), (.sl [[(i 5)]] true), (.v (.bool false))])], nl)])]) ⟨⟨k400, trivial⟩, ⟨k401, k402, k403, k404, k405, trivial⟩, trivial⟩ e60ok (n := 100000) (by kernel_rfl)
theorem k407 [Env] : Known Tryz.prog 28 [(.agg [x87, (i 0)]), (.agg [x88, (i 0)])] (.v (.bool true)) :=
  known_ofF tOk mixed fnsOk (B := [(95, [([(.agg [x87, (i 0)])], (i 0)), ([(.agg [x88, (i 0)])], (i 0))]), (60, [([(.agg [x89, (i 0)]), (.agg [(.sl [[(i 0)]] true), (.sl [[(i 3)]] true), (.v (.bool false))])], (i 0))])]) ⟨⟨k398, k399, trivial⟩, ⟨k406, trivial⟩, trivial⟩ e28ok (n := 100000) (by kernel_rfl)
theorem k408 [Env] : Known Tryz.prog 28 [(.agg [x88, (i 0)]), (.agg [x87, (i 0)])] (.v (.bool true)) :=
  known_ofF tOk mixed fnsOk (B := [(95, [([(.agg [x88, (i 0)])], (i 0)), ([(.agg [x87, (i 0)])], (i 0))]), (60, [([(.agg [x89, (i 0)]), (.agg [(.sl [[(i 0)]] true), (.sl [[(i 3)]] true), (.v (.bool false))])], (i 0))])]) ⟨⟨k399, k398, trivial⟩, ⟨k406, trivial⟩, trivial⟩ e28ok (n := 100000) (by kernel_rfl)
theorem k409 [Env] : Known Tryz.prog 5 [(.agg [x87, (i 0)]), (.agg [x88, (i 0)])] (.v (.bool true)) :=
  known_ofF tOk mixed fnsOk (B := [(28, [([(.agg [x87, (i 0)]), (.agg [x88, (i 0)])], (.v (.bool true))), ([(.agg [x88, (i 0)]), (.agg [x87, (i 0)])], (.v (.bool true)))])]) ⟨⟨k407, k408, trivial⟩, trivial⟩ e5ok (n := 100000) (by kernel_rfl)
theorem k410 [Env] : Known Tryz.prog 18 [(i 2)] (.agg [x90, (i 0)]) :=
  known_ofF tOk mixed fnsOk (B := []) trivial e18ok (n := 100000) (by kernel_rfl)
theorem k411 [Env] : Known Tryz.prog 19 [(i 2)] (.agg [x91, (i 0)]) :=
  known_ofF tOk mixed fnsOk (B := []) trivial e19ok (n := 100000) (by kernel_rfl)
theorem k412 [Env] : Known Tryz.prog 95 [(.agg [x90, (i 0)])] (i 0) :=
  known_ofF tOk mixed fnsOk (B := []) trivial e95ok (n := 100000) (by kernel_rfl)
theorem k413 [Env] : Known Tryz.prog 95 [(.agg [x91, (i 0)])] (i 0) :=
  known_ofF tOk mixed fnsOk (B := []) trivial e95ok (n := 100000) (by kernel_rfl)
theorem k414 [Env] : Known Tryz.prog 95 [(.agg [x92, (i 0)])] (i 0) :=
  known_ofF tOk mixed fnsOk (B := []) trivial e95ok (n := 100000) (by kernel_rfl)
theorem k415 [Env] : Known Tryz.prog 143 [(.agg [x92, (i 0)]), (.agg [(.sl [[(i 0)]] false), (.sl [[(i 4)]] false), (.v (.bool false))])] x36 :=
  known_ofF tOk mixed fnsOk (B := []) trivial e143ok (n := 100000) (by kernel_rfl)
theorem k416 [Env] : Known Tryz.prog 143 [(.agg [x92, (i 0)]), (.agg [(.sl [[(i 5)]] true), (.sl [[(i 1)]] false), (.v (.bool false))])] nl :=
  known_ofF tOk mixed fnsOk (B := []) trivial e143ok (n := 100000) (by kernel_rfl)
theorem k417 [Env] : Known Tryz.prog 143 [(.agg [x92, (i 0)]), (.agg [(.sl [[(i 5)]] true), nl, (.v (.bool false))])] nl :=
  known_ofF tOk mixed fnsOk (B := []) trivial e143ok (n := 100000) (by kernel_rfl)
theorem k418 [Env] : Known Tryz.prog 143 [(.agg [x92, (i 0)]), (.agg [nl, (.sl [[(i 6)]] true), (.v (.bool false))])] nl :=
  known_ofF tOk mixed fnsOk (B := []) trivial e143ok (n := 100000) (by kernel_rfl)
theorem k419 [Env] : Known Tryz.prog 143 [(.agg [x92, (i 0)]), (.agg [(.sl [[(i 5)]] true), (.sl [[(i 2)]] false), (.v (.bool false))])] nl :=
  known_ofF tOk mixed fnsOk (B := []) trivial e143ok (n := 100000) (by kernel_rfl)
theorem k420 [Env] : Known Tryz.prog 143 [(.agg [x92, (i 0)]), (.agg [(.sl [[(i 3)]] false), (.sl [[(i 6)]] true), (.v (.bool false))])] nl :=
  known_ofF tOk mixed fnsOk (B := []) trivial e143ok (n := 100000) (by kernel_rfl)
theorem k421 [Env] : Known Tryz.prog 60 [(.agg [x92, (i 0)]), (.agg [(.sl [[(i 0)]] true), (.sl [[(i 4)]] true), (.v (.bool false))])] (i 0) :=
  known_ofF tOk mixed fnsOk (B := [(95, [([(.agg [x92, (i 0)])], (i 0))]), (143, [([(.agg [x92, (i 0)]), (.agg [(.sl [[(i 0)]] false), (.sl [[(i 4)]] false), (.v (.bool false))])], x36), ([(.agg [x92, (i 0)]), (.agg [(.sl [[(i 5)]] true), (.sl [[(i 1)]] false), (.v (.bool false))])], nl), ([(.agg [x92, (i 0)]), (.agg [(.sl [[(i 5)]] true), nl, (.v (.bool false))])], nl), ([(.agg [x92, (i 0)]), (.agg [nl, (.sl [[(i 6)]] true), (.v (.bool false))])], nl), ([(.agg [x92, (i 0)]), (.agg [(.sl [[(i 5)]] true), (.sl [[(i 2)]] false), (.v (.bool false))])], nl), ([(.agg [x92, (i 0)]), (.agg [(.sl [[(i 3)]] false), (.sl [[(i 6)]] true), (.v (.bool false))])], nl)])]) ⟨⟨k414, trivial⟩, ⟨k415, k416, k417, k418, k419, k420, trivial⟩, trivial⟩ e60ok (n := 100000) (by kernel_rfl)
theorem k422 [Env] : Known Tryz.prog 28 [(.agg [x90, (i 0)]), (.agg [x91, (i 0)])] (.v (.bool true)) :=
  known_ofF tOk mixed fnsOk (B := [(95, [([(.agg [x90, (i 0)])], (i 0)), ([(.agg [x91, (i 0)])], (i 0))]), (60, [([(.agg [x92, (i 0)]), (.agg [(.sl [[(i 0)]] true), (.sl [[(i 4)]] true), (.v (.bool false))])], (i 0))])]) ⟨⟨k412, k413, trivial⟩, ⟨k421, trivial⟩, trivial⟩ e28ok (n := 100000) (by kernel_rfl)
theorem k423 [Env] : Known Tryz.prog 95 [(.agg [x93, (i 0)])] (i 0) :=
  known_ofF tOk mixed fnsOk (B := []) trivial e95ok (n := 100000) (by kernel_rfl)
theorem k424 [Env] : Known Tryz.prog 143 [(.agg [x93, (i 0)]), (.agg [(.sl [[(i 0)]] false), (.sl [[(i 3)]] false), (.v (.bool false))])] x40 :=
  known_ofF tOk mixed fnsOk (B := []) trivial e143ok (n := 100000) (by kernel_rfl)
theorem k425 [Env] : Known Tryz.prog 143 [(.agg [x93, (i 0)]), (.agg [(.sl [[(i 4)]] true), (.sl [[(i 1)]] false), (.v (.bool false))])] nl :=
  known_ofF tOk mixed fnsOk (B := []) trivial e143ok (n := 100000) (by kernel_rfl)
theorem k426 [Env] : Known Tryz.prog 143 [(.agg [x93, (i 0)]), (.agg [(.sl [[(i 5)]] true), nl, (.v (.bool false))])] nl :=
  known_ofF tOk mixed fnsOk (B := []) trivial e143ok (n := 100000) (by kernel_rfl)
theorem k427 [Env] : Known Tryz.prog 143 [(.agg [x93, (i 0)]), (.agg [nl, (.sl [[(i 6)]] true), (.v (.bool false))])] nl :=
  known_ofF tOk mixed fnsOk (B := []) trivial e143ok (n := 100000) (by kernel_rfl)
theorem k428 [Env] : Known Tryz.prog 143 [(.agg [x93, (i 0)]), (.agg [(.sl [[(i 4)]] true), nl, (.v (.bool false))])] nl :=
  known_ofF tOk mixed fnsOk (B := []) trivial e143ok (n := 100000) (by kernel_rfl)
theorem k429 [Env] : Known Tryz.prog 143 [(.agg [x93, (i 0)]), (.agg [(.sl [[(i 5)]] true), (.sl [[(i 1)]] false), (.v (.bool false))])] nl :=
  known_ofF tOk mixed fnsOk (B := []) trivial e143ok (n := 100000) (by kernel_rfl)
theorem k430 [Env] : Known Tryz.prog 143 [(.agg [x93, (i 0)]), (.agg [(.sl [[(i 2)]] false), (.sl [[(i 6)]] true), (.v (.bool false))])] nl :=
  known_ofF tOk mixed fnsOk (B := []) trivial e143ok (n := 100000) (by kernel_rfl)
theorem k431 [Env] : Known Tryz.prog 60 [(.agg [x93, (i 0)]), (.agg [(.sl [[(i 0)]] true), (.sl [[(i 3)]] true), (.v (.bool false))])] (i 0) :=
  known_ofF tOk mixed fnsOk (B := [(95, [([(.agg [x93, (i 0)])], (i 0))]), (143, [([(.agg [x93, (i 0)]), (.agg [(.sl [[(i 0)]] false), (.sl [[(i 3)]] false), (.v (.bool false))])], x40), ([(.agg [x93, (i 0)]), (.agg [(.sl [[(i 4)]] true), (.sl [[(i 1)]] false), (.v (.bool false))])], nl), ([(.agg [x93, (i 0)]), (.agg [(.sl [[(i 5)]] true), nl, (.v (.bool false))])], nl), ([(.agg [x93, (i 0)]), (.agg [nl, (.sl [[(i 6)]] true), (.v (.bool false))])], nl), ([(.agg [x93, (i 0)]), (.agg [(.sl [[(i 4)]] true), nl, (.v (.bool false))])], nl), ([(.agg [x93, (i 0)]), (.agg [(.sl [[(i 5)]] true), (.sl [[(i 1)]] false), (.v (.bool false))])], nl), ([(.agg [x93, (i 0)]), (.agg [(.sl [[(i 2)]] false), (.sl [[(i 6)]] true), (.v (.bool false))])], nl)])]) ⟨⟨k423, trivial⟩, ⟨k424, k425, k426, k427, k428, k429, k430, trivial⟩, trivial⟩ e60ok (n := 100000) (by kernel_rfl)
theorem k432 [Env] : Known Tryz.prog 28 [(.agg [x91, (i 0)]), (.agg [x90, (i 0)])] (.v (.bool true)) :=
  known_ofF tOk mixed fnsOk (B := [(95, [([(.agg [x91, (i 0)])], (i 0)), ([(.agg [x90, (i 0)])], (i 0))]), (60, [([(.agg [x93, (i 0)]), (.agg [(.sl [[(i 0)]] true), (.sl [[(i 3)]] true), (.v (.bool false))])], (i 0))])]) ⟨⟨k413, k412, trivial⟩, ⟨k431, trivial⟩, trivial⟩ e28ok (n := 100000) (by kernel_rfl)
theorem k433 [Env] : Known Tryz.prog 5 [(.agg [x90, (i 0)]), (.agg [x91, (i 0)])] (.v (.bool true)) :=
  known_ofF tOk mixed fnsOk (B := [(28, [([(.agg [x90, (i 0)]), (.agg [x91, (i 0)])], (.v (.bool true))), ([(.agg [x91, (i 0)]), (.agg [x90, (i 0)])], (.v (.bool true)))])]) ⟨⟨k422, k432, trivial⟩, trivial⟩ e5ok (n := 100000) (by kernel_rfl)
theorem k434 [Env] : Known Tryz.prog 18 [(i 3)] (.agg [x94, (i 0)]) :=
  known_ofF tOk mixed fnsOk (B := []) trivial e18ok (n := 100000) (by kernel_rfl)
theorem k435 [Env] : Known Tryz.prog 19 [(i 3)] (.agg [x95, (i 0)]) :=
  known_ofF tOk mixed fnsOk (B := []) trivial e19ok (n := 100000) (by kernel_rfl)
theorem k436 [Env] : Known Tryz.prog 95 [(.agg [x94, (i 0)])] (i 0) :=
  known_ofF tOk mixed fnsOk (B := []) trivial e95ok (n := 100000) (by kernel_rfl)
theorem k437 [Env] : Known Tryz.prog 95 [(.agg [x95, (i 0)])] (i 0) :=
  known_ofF tOk mixed fnsOk (B := []) trivial e95ok (n := 100000) (by kernel_rfl)
theorem k438 [Env] : Known Tryz.prog 95 [(.agg [x96, (i 0)])] (i 0) :=
  known_ofF tOk mixed fnsOk (B := []) trivial e95ok (n := 100000) (by kernel_rfl)
theorem k439 [Env] : Known Tryz.prog 143 [(.agg [x96, (i 0)]), (.agg [(.sl [[(i 0)]] false), (.sl [[(i 5)]] false), (.v (.bool false))])] x50 :=
  known_ofF tOk mixed fnsOk (B := []) trivial e143ok (n := 100000) (by kernel_rfl)
theorem k440 [Env] : Known Tryz.prog 143 [(.agg [x96, (i 0)]), (.agg [(.sl [[(i 6)]] true), (.sl [[(i 1)]] false), (.v (.bool false))])] nl :=
  known_ofF tOk mixed fnsOk (B := []) trivial e143ok (n := 100000) (by kernel_rfl)
theorem k441 [Env] : Known Tryz.prog 143 [(.agg [x96, (i 0)]), (.agg [(.sl [[(i 6)]] true), nl, (.v (.bool false))])] nl :=
  known_ofF tOk mixed fnsOk (B := []) trivial e143ok (n := 100000) (by kernel_rfl)
theorem k442 [Env] : Known Tryz.prog 143 [(.agg [x96, (i 0)]), (.agg [nl, (.sl [[(i 7)]] true), (.v (.bool false))])] nl :=
  known_ofF tOk mixed fnsOk (B := []) trivial e143ok (n := 100000) (by kernel_rfl)
theorem k443 [Env] : Known Tryz.prog 143 [(.agg [x96, (i 0)]), (.agg [(.sl [[(i 6)]] true), (.sl [[(i 2)]] false), (.v (.bool false))])] nl :=
  known_ofF tOk mixed fnsOk (B := []) trivial e143ok (n := 100000) (by kernel_rfl)
theorem k444 [Env] : Known Tryz.prog 143 [(.agg [x96, (i 0)]), (.agg [(.sl [[(i 6)]] true), (.sl [[(i 3)]] false), (.v (.bool false))])] nl :=
  known_ofF tOk mixed fnsOk (B := []) trivial e143ok (n := 100000) (by kernel_rfl)
theorem k445 [Env] : Known Tryz.prog 143 [(.agg [x96, (i 0)]), (.agg [(.sl [[(i 4)]] false), (.sl [[(i 7)]] true), (.v (.bool false))])] nl :=
  known_ofF tOk mixed fnsOk (B := []) trivial e143ok (n := 100000) (by kernel_rfl)
theorem k446 [Env] : Known Tryz.prog 60 [(.agg [x96, (i 0)]), (.agg [(.sl [[(i 0)]] true), (.sl [[(i 5)]] true), (.v (.bool false))])] (i 0) :=
  known_ofF tOk mixed fnsOk (B := [(95, [([(.agg [x96, (i 0)])], (i 0))]), (143, [([(.agg [x96, (i 0)]), (.agg [(.sl [[(i 0)]] false), (.sl [[(i 5)]] false), (.v (.bool false))])], x50), ([(.agg [x96, (i 0)]), (.agg [(.sl [[(i 6)]] true), (.sl [[(i 1)]] false), (.v (.bool false))])], nl), ([(.agg [x96, (i 0)]), (.agg [(.sl [[(i 6)]] true), nl, (.v (.bool false))])], nl), ([(.agg [x96, (i 0)]), (.agg [nl, (.sl [[(i 7)]] true), (.v (.bool false))])], nl), ([(.agg [x96, (i 0)]), (.agg [(.sl [[(i 6)]] true), (.sl [[(i 2)]] false), (.v (.bool false))])], nl), ([(.agg [x96, (i 0)]), (.agg [(.sl [[(i 6)]] true), (.sl [[(i 3)]] false), (.v (.bool false))])], nl), ([(.agg [x96, (i 0)]), (.agg [(.sl [[(i 4)]] false), (.sl [[(i 7)]] true), (.v (.bool false))])], nl)])]) ⟨⟨k438, trivial⟩, ⟨k439, k440, k441, k442, k443, k444, k445, trivial⟩, trivial⟩ e60ok (n := 100000) (by kernel_rfl)
theorem k447 [Env] : Known Tryz.prog 28 [(.agg [x94, (i 0)]), (.agg [x95, (i 0)])] (.v (.bool true)) :=
  known_ofF tOk mixed fnsOk (B := [(95, [([(.agg [x94, (i 0)])], (i 0)), ([(.agg [x95, (i 0)])], (i 0))]), (60, [([(.agg [x96, (i 0)]), (.agg [(.sl [[(i 0)]] true), (.sl [[(i 5)]] true), (.v (.bool false))])], (i 0))])]) ⟨⟨k436, k437, trivial⟩, ⟨k446, trivial⟩, trivial⟩ e28ok (n := 100000) (by kernel_rfl)
theorem k448 [Env] : Known Tryz.prog 95 [(.agg [x97, (i 0)])] (i 0) :=
  known_ofF tOk mixed fnsOk (B := []) trivial e95ok (n := 100000) (by kernel_rfl)
theorem k449 [Env] : Known Tryz.prog 143 [(.agg [x97, (i 0)]), (.agg [(.sl [[(i 0)]] false), (.sl [[(i 3)]] false), (.v (.bool false))])] x58 :=
  known_ofF tOk mixed fnsOk (B := []) trivial e143ok (n := 100000) (by kernel_rfl)
theorem k450 [Env] : Known Tryz.prog 143 [(.agg [x97, (i 0)]), (.agg [(.sl [[(i 4)]] true), (.sl [[(i 1)]] false), (.v (.bool false))])] nl :=
  known_ofF tOk mixed fnsOk (B := []) trivial e143ok (n := 100000) (by kernel_rfl)
theorem k451 [Env] : Known Tryz.prog 143 [(.agg [x97, (i 0)]), (.agg [(.sl [[(i 5)]] true), nl, (.v (.bool false))])] nl :=
  known_ofF tOk mixed fnsOk (B := []) trivial e143ok (n := 100000) (by kernel_rfl)
theorem k452 [Env] : Known Tryz.prog 143 [(.agg [x97, (i 0)]), (.agg [(.sl [[(i 6)]] true), nl, (.v (.bool false))])] nl :=
  known_ofF tOk mixed fnsOk (B := []) trivial e143ok (n := 100000) (by kernel_rfl)
theorem k453 [Env] : Known Tryz.prog 143 [(.agg [x97, (i 0)]), (.agg [nl, (.sl [[(i 7)]] true), (.v (.bool false))])] nl :=
  known_ofF tOk mixed fnsOk (B := []) trivial e143ok (n := 100000) (by kernel_rfl)
theorem k454 [Env] : Known Tryz.prog 143 [(.agg [x97, (i 0)]), (.agg [(.sl [[(i 4)]] true), nl, (.v (.bool false))])] nl :=
  known_ofF tOk mixed fnsOk (B := []) trivial e143ok (n := 100000) (by kernel_rfl)
theorem k455 [Env] : Known Tryz.prog 143 [(.agg [x97, (i 0)]), (.agg [(.sl [[(i 5)]] true), (.sl [[(i 1)]] false), (.v (.bool false))])] nl :=
  known_ofF tOk mixed fnsOk (B := []) trivial e143ok (n := 100000) (by kernel_rfl)
theorem k456 [Env] : Known Tryz.prog 143 [(.agg [x97, (i 0)]), (.agg [(.sl [[(i 6)]] true), (.sl [[(i 1)]] false), (.v (.bool false))])] nl :=
  known_ofF tOk mixed fnsOk (B := []) trivial e143ok (n := 100000) (by kernel_rfl)
theorem k457 [Env] : Known Tryz.prog 143 [(.agg [x97, (i 0)]), (.agg [(.sl [[(i 2)]] false), (.sl [[(i 7)]] true), (.v (.bool false))])] nl :=
  known_ofF tOk mixed fnsOk (B := []) trivial e143ok (n := 100000) (by kernel_rfl)
theorem k458 [Env] : Known Tryz.prog 60 [(.agg [x97, (i 0)]), (.agg [(.sl [[(i 0)]] true), (.sl [[(i 3)]] true), (.v (.bool false))])] (i 0) :=
  known_ofF tOk mixed fnsOk (B := [(95, [([(.agg [x97, (i 0)])], (i 0))]), (143, [([(.agg [x97, (i 0)]), (.agg [(.sl [[(i 0)]] false), (.sl [[(i 3)]] false), (.v (.bool false))])], x58), ([(.agg [x97, (i 0)]), (.agg [(.sl [[(i 4)]] true), (.sl [[(i 1)]] false), (.v (.bool false))])], nl), ([(.agg [x97, (i 0)]), (.agg [(.sl [[(i 5)]] true), nl, (.v (.bool false))])], nl), ([(.agg [x97, (i 0)]), (.agg [(.sl [[(i 6)]] true), nl, (.v (.bool false))])], nl), ([(.agg [x97, (i 0)]), (.agg [nl, (.sl [[(i 7)]] true), (.v (.bool false))])], nl), ([(.agg [x97, (i 0)]), (.agg [(.sl [[(i 4)]] true), nl, (.v (.bool false))])], nl), ([(.agg [x97, (i 0)]), (.agg [(.sl [[(i 5)]] true), (.sl [[(i 1)]] false), (.v (.bool false))])], nl), ([(.agg [x97, (i 0)]), (.agg [(.sl [[(i 6)]] true), (.sl [[(i 1)]] false), (.v (.bool false))])], nl), ([(.agg [x97, (i 0)]), (.agg [(.sl [[(i 2)]] false), (.sl [[(i 7)]] true), (.v (.bool false))])], nl)])]) ⟨⟨k448, trivial⟩, ⟨k449, k450, k451, k452, k453, k454, k455, k456, k457, trivial⟩, trivial⟩ e60ok (n := 100000) (by kernel_rfl)
theorem k459 [Env] : Known Tryz.prog 28 [(.agg [x95, (i 0)]), (.agg [x94, (i 0)])] (.v (.bool true)) :=
  known_ofF tOk mixed fnsOk (B := [(95, [([(.agg [x95, (i 0)])], (i 0)), ([(.agg [x94, (i 0)])], (i 0))]), (60, [([(.agg [x97, (i 0)]), (.agg [(.sl [[(i 0)]] true), (.sl [[(i 3)]] true), (.v (.bool false))])], (i 0))])]) ⟨⟨k437, k436, trivial⟩, ⟨k458, trivial⟩, trivial⟩ e28ok (n := 100000) (by kernel_rfl)
theorem k460 [Env] : Known Tryz.prog 5 [(.agg [x94, (i 0)]), (.agg [x95, (i 0)])] (.v (.bool true)) :=
  known_ofF tOk mixed fnsOk (B := [(28, [([(.agg [x94, (i 0)]), (.agg [x95, (i 0)])], (.v (.bool true))), ([(.agg [x95, (i 0)]), (.agg [x94, (i 0)])], (.v (.bool true)))])]) ⟨⟨k447, k459, trivial⟩, trivial⟩ e5ok (n := 100000) (by kernel_rfl)
theorem k461 [Env] : Known Tryz.prog 18 [(i 4)] (.agg [x98, (i 0)]) :=
  known_ofF tOk mixed fnsOk (B := []) trivial e18ok (n := 100000) (by kernel_rfl)
theorem k462 [Env] : Known Tryz.prog 19 [(i 4)] (.agg [x99, (i 0)]) :=
  known_ofF tOk mixed fnsOk (B := []) trivial e19ok (n := 100000) (by kernel_rfl)
theorem k463 [Env] : Known Tryz.prog 95 [(.agg [x98, (i 0)])] (i 0) :=
  known_ofF tOk mixed fnsOk (B := []) trivial e95ok (n := 100000) (by kernel_rfl)
theorem k464 [Env] : Known Tryz.prog 95 [(.agg [x99, (i 0)])] (i 0) :=
  known_ofF tOk mixed fnsOk (B := []) trivial e95ok (n := 100000) (by kernel_rfl)
theorem k465 [Env] : Known Tryz.prog 95 [(.agg [x100, (i 0)])] (i 0) :=
  known_ofF tOk mixed fnsOk (B := []) trivial e95ok (n := 100000) (by kernel_rfl)
theorem k466 [Env] : Known Tryz.prog 143 [(.agg [x100, (i 0)]), (.agg [(.sl [[(i 0)]] false), (.sl [[(i 6)]] false), (.v (.bool false))])] x73 :=
  known_ofF tOk mixed fnsOk (B := []) trivial e143ok (n := 100000) (by kernel_rfl)
theorem k467 [Env] : Known Tryz.prog 143 [(.agg [x100, (i 0)]), (.agg [(.sl [[(i 7)]] true), (.sl [[(i 1)]] false), (.v (.bool false))])] nl :=
  known_ofF tOk mixed fnsOk (B := []) trivial e143ok (n := 100000) (by kernel_rfl)
theorem k468 [Env] : Known Tryz.prog 143 [(.agg [x100, (i 0)]), (.agg [(.sl [[(i 7)]] true), nl, (.v (.bool false))])] nl :=
  known_ofF tOk mixed fnsOk (B := []) trivial e143ok (n := 100000) (by kernel_rfl)
theorem k469 [Env] : Known Tryz.prog 143 [(.agg [x100, (i 0)]), (.agg [nl, (.sl [[(i 8)]] true), (.v (.bool false))])] nl :=
  known_ofF tOk mixed fnsOk (B := []) trivial e143ok (n := 100000) (by kernel_rfl)
theorem k470 [Env] : Known Tryz.prog 143 [(.agg [x100, (i 0)]), (.agg [(.sl [[(i 7)]] true), (.sl [[(i 2)]] false), (.v (.bool false))])] nl :=
  known_ofF tOk mixed fnsOk (B := []) trivial e143ok (n := 100000) (by kernel_rfl)
theorem k471 [Env] : Known Tryz.prog 143 [(.agg [x100, (i 0)]), (.agg [(.sl [[(i 7)]] true), (.sl [[(i 3)]] false), (.v (.bool false))])] nl :=
  known_ofF tOk mixed fnsOk (B := []) trivial e143ok (n := 100000) (by kernel_rfl)
theorem k472 [Env] : Known Tryz.prog 143 [(.agg [x100, (i 0)]), (.agg [(.sl [[(i 7)]] true), (.sl [[(i 4)]] false), (.v (.bool false))])] nl :=
  known_ofF tOk mixed fnsOk (B := []) trivial e143ok (n := 100000) (by kernel_rfl)
theorem k473 [Env] : Known Tryz.prog 143 [(.agg [x100, (i 0)]), (.agg [(.sl [[(i 5)]] false), (.sl [[(i 8)]] true), (.v (.bool false))])] nl :=
  known_ofF tOk mixed fnsOk (B := []) trivial e143ok (n := 100000) (by kernel_rfl)
theorem k474 [Env] : Known Tryz.prog 60 [(.agg [x100, (i 0)]), (.agg [(.sl [[(i 0)]] true), (.sl [[(i 6)]] true), (.v (.bool false))])] (i 0) :=
  known_ofF tOk mixed fnsOk (B := [(95, [([(.agg [x100, (i 0)])], (i 0))]), (143, [([(.agg [x100, (i 0)]), (.agg [(.sl [[(i 0)]] false), (.sl [[(i 6)]] false), (.v (.bool false))])], x73), ([(.agg [x100, (i 0)]), (.agg [(.sl [[(i 7)]] true), (.sl [[(i 1)]] false), (.v (.bool false))])], nl), ([(.agg [x100, (i 0)]), (.agg [(.sl [[(i 7)]] true), nl, (.v (.bool false))])], nl), ([(.agg [x100, (i 0)]), (.agg [nl, (.sl [[(i 8)]] true), (.v (.bool false))])], nl), ([(.agg [x100, (i 0)]), (.agg [(.sl [[(i 7)]] true), (.sl [[(i 2)]] false), (.v (.bool false))])], nl), ([(.agg [x100, (i 0)]), (.agg [(.sl [[(i 7)]] true), (.sl [[(i 3)]] false), (.v (.bool false))])], nl), ([(.agg [x100, (i 0)]), (.agg [(.sl [[(i 7)]] true), (.sl [[(i 4)]] false), (.v (.bool false))])], nl), ([(.agg [x100, (i 0)]), (.agg [(.sl [[(i 5)]] false), (.sl [[(i 8)]] true), (.v (.bool false))])], nl)])]) ⟨⟨k465, trivial⟩, ⟨k466, k467, k468, k469, k470, k471, k472, k473, trivial⟩, trivial⟩ e60ok (n := 100000) (by kernel_rfl)
theorem k475 [Env] : Known Tryz.prog 28 [(.agg [x98, (i 0)]), (.agg [x99, (i 0)])] (.v (.bool true)) :=
  known_ofF tOk mixed fnsOk (B := [(95, [([(.agg [x98, (i 0)])], (i 0)), ([(.agg [x99, (i 0)])], (i 0))]), (60, [([(.agg [x100, (i 0)]), (.agg [(.sl [[(i 0)]] true), (.sl [[(i 6)]] true), (.v (.bool false))])], (i 0))])]) ⟨⟨k463, k464, trivial⟩, ⟨k474, trivial⟩, trivial⟩ e28ok (n := 100000) (by kernel_rfl)
theorem k476 [Env] : Known Tryz.prog 95 [(.agg [x101, (i 0)])] (i 0) :=
  known_ofF tOk mixed fnsOk (B := []) trivial e95ok (n := 100000) (by kernel_rfl)
theorem k477 [Env] : Known Tryz.prog 143 [(.agg [x101, (i 0)]), (.agg [(.sl [[(i 0)]] false), (.sl [[(i 3)]] false), (.v (.bool false))])] x86 :=
  known_ofF tOk mixed fnsOk (B := []) trivial e143ok (n := 100000) (by kernel_rfl)
theorem k478 [Env] : Known Tryz.prog 143 [(.agg [x101, (i 0)]), (.agg [(.sl [[(i 4)]] true), (.sl [[(i 1)]] false), (.v (.bool false))])] nl :=
  known_ofF tOk mixed fnsOk (B := []) trivial e143ok (n := 100000) (by kernel_rfl)
theorem k479 [Env] : Known Tryz.prog 143 [(.agg [x101, (i 0)]), (.agg [(.sl [[(i 5)]] true), nl, (.v (.bool false))])] nl :=
  known_ofF tOk mixed fnsOk (B := []) trivial e143ok (n := 100000) (by kernel_rfl)
theorem k480 [Env] : Known Tryz.prog 143 [(.agg [x101, (i 0)]), (.agg [(.sl [[(i 6)]] true), nl, (.v (.bool false))])] nl :=
  known_ofF tOk mixed fnsOk (B := []) trivial e143ok (n := 100000) (by kernel_rfl)
theorem k481 [Env] : Known Tryz.prog 143 [(.agg [x101, (i 0)]), (.agg [(.sl [[(i 7)]] true), nl, (.v (.bool false))])] nl :=
  known_ofF tOk mixed fnsOk (B := []) trivial e143ok (n := 100000) (by kernel_rfl)
theorem k482 [Env] : Known Tryz.prog 143 [(.agg [x101, (i 0)]), (.agg [nl, (.sl [[(i 8)]] true), (.v (.bool false))])] nl :=
  known_ofF tOk mixed fnsOk (B := []) trivial e143ok (n := 100000) (by kernel_rfl)
theorem k483 [Env] : Known Tryz.prog 143 [(.agg [x101, (i 0)]), (.agg [(.sl [[(i 4)]] true), nl, (.v (.bool false))])] nl :=
  known_ofF tOk mixed fnsOk (B := []) trivial e143ok (n := 100000) (by kernel_rfl)
theorem k484 [Env] : Known Tryz.prog 143 [(.agg [x101, (i 0)]), (.agg [(.sl [[(i 5)]] true), (.sl [[(i 1)]] false), (.v (.bool false))])] nl :=
  known_ofF tOk mixed fnsOk (B := []) trivial e143ok (n := 100000) (by kernel_rfl)
theorem k485 [Env] : Known Tryz.prog 143 [(.agg [x101, (i 0)]), (.agg [(.sl [[(i 6)]] true), (.sl [[(i 1)]] false), (.v (.bool false))])] nl :=
  known_ofF tOk mixed fnsOk (B := []) trivial e143ok (n := 100000) (by kernel_rfl)
theorem k486 [Env] : Known Tryz.prog 143 [(.agg [x101, (i 0)]), (.agg [(.sl [[(i 7)]] true), (.sl [[(i 1)]] false), (.v (.bool false))])] nl :=
  known_ofF tOk mixed fnsOk (B := []) trivial e143ok (n := 100000) (by kernel_rfl)
theorem k487 [Env] : Known Tryz.prog 143 [(.agg [x101, (i 0)]), (.agg [(.sl [[(i 2)]] false), (.sl [[(i 8)]] true), (.v (.bool false))])] nl :=
  known_ofF tOk mixed fnsOk (B := []) trivial e143ok (n := 100000) (by kernel_rfl)
theorem k488 [Env] : Known Tryz.prog 60 [(.agg [x101, (i 0)]), (.agg [(.sl [[(i 0)]] true), (.sl [[(i 3)]] true), (.v (.bool false))])] (i 0) :=
  known_ofF tOk mixed fnsOk (B := [(95, [([(.agg [x101, (i 0)])], (i 0))]), (143, [([(.agg [x101, (i 0)]), (.agg [(.sl [[(i 0)]] false), (.sl [[(i 3)]] false), (.v (.bool false))])], x86), ([(.agg [x101, (i 0)]), (.agg [(.sl [[(i 4)]] true), (.sl [[(i 1)]] false), (.v (.bool false))])], nl), ([(.agg [x101, (i 0)]), (.agg [(.sl [[(i 5)]] true), nl, (.v (.bool false))])], nl), ([(.agg [x101, (i 0)]), (.agg [(.sl [[(i 6)]] true), nl, (.v (.bool false))])], nl), ([(.agg [x101, (i 0)]), (.agg [(.sl [[(i 7)]] true), nl, (.v (.bool false))])], nl), ([(.agg [x101, (i 0)]), (.agg [nl, (.sl [[(i 8)]] true), (.v (.bool false))])], nl), ([(.agg [x101, (i 0)]), (.agg [(.sl [[(i 4)]] true), nl, (.v (.bool false))])], nl), ([(.agg [x101, (i 0)]), (.agg [(.sl [[(i 5)]] true), (.sl [[(i 1)]] false), (.v (.bool false))])], nl), ([(.agg [x101, (i 0)]), (.agg [(.sl [[(i 6)]] true), (.sl [[(i 1)]] false), (.v (.bool false))])], nl), ([(.agg [x101, (i 0)]), (.agg [(.sl [[(i 7)]] true), (.sl [[(i 1)]] false), (.v (.bool false))])], nl), ([(.agg [x101, (i 0)]), (.agg [(.sl [[(i 2)]] false), (.sl [[(i 8)]] true), (.v (.bool false))])], nl)])]) ⟨⟨k476, trivial⟩, ⟨k477, k478, k479, k480, k481, k482, k483, k484, k485, k486, k487, trivial⟩, trivial⟩ e60ok (n := 100000) (by kernel_rfl)
theorem k489 [Env] : Known Tryz.prog 28 [(.agg [x99, (i 0)]), (.agg [x98, (i 0)])] (.v (.bool true)) :=
  known_ofF tOk mixed fnsOk (B := [(95, [([(.agg [x99, (i 0)])], (i 0)), ([(.agg [x98, (i 0)])], (i 0))]), (60, [([(.agg [x101, (i 0)]), (.agg [(.sl [[(i 0)]] true), (.sl [[(i 3)]] true), (.v (.bool false))])], (i 0))])]) ⟨⟨k464, k463, trivial⟩, ⟨k488, trivial⟩, trivial⟩ e28ok (n := 100000) (by kernel_rfl)
theorem k490 [Env] : Known Tryz.prog 5 [(.agg [x98, (i 0)]), (.agg [x99, (i 0)])] (.v (.bool true)) :=
  known_ofF tOk mixed fnsOk (B := [(28, [([(.agg [x98, (i 0)]), (.agg [x99, (i 0)])], (.v (.bool true))), ([(.agg [x99, (i 0)]), (.agg [x98, (i 0)])], (.v (.bool true)))])]) ⟨⟨k475, k489, trivial⟩, trivial⟩ e5ok (n := 100000) (by kernel_rfl)
theorem k491 [Env] : Known Tryz.prog 18 [(i 5)] (.agg [(.sl [[(i 1), (i 0), (i 0), (sb []), nl, nl, (i 0), (i 0)]] true), (i 0)]) :=
  known_ofF tOk mixed fnsOk (B := []) trivial e18ok (n := 100000) (by kernel_rfl)
theorem k492 [Env] : Known Tryz.prog 19 [(i 5)] (.agg [(.sl [[(i 1), (i 0), (i 0), (sb []), nl, nl, (i 0), (i 0)]] true), (i 0)]) :=
  known_ofF tOk mixed fnsOk (B := []) trivial e19ok (n := 100000) (by kernel_rfl)
theorem k493 [Env] : Known Tryz.prog 18 [(i 6)] (.agg [(.sl [[(i 1), (i 0), (i 0), (sb []), nl, nl, (i 0), (i 0)]] true), (i 0)]) :=
  known_ofF tOk mixed fnsOk (B := []) trivial e18ok (n := 100000) (by kernel_rfl)
theorem k494 [Env] : Known Tryz.prog 19 [(i 6)] (.agg [(.sl [[(i 1), (i 0), (i 0), (sb []), nl, nl, (i 0), (i 0)]] true), (i 0)]) :=
  known_ofF tOk mixed fnsOk (B := []) trivial e19ok (n := 100000) (by kernel_rfl)
theorem k495 [Env] : Known Tryz.prog 18 [(i 7)] (.agg [(.sl [[(i 1), (i 0), (i 0), (sb []), nl, nl, (i 0), (i 0)]] true), (i 0)]) :=
  known_ofF tOk mixed fnsOk (B := []) trivial e18ok (n := 100000) (by kernel_rfl)
theorem k496 [Env] : Known Tryz.prog 19 [(i 7)] (.agg [(.sl [[(i 1), (i 0), (i 0), (sb []), nl, nl, (i 0), (i 0)]] true), (i 0)]) :=
  known_ofF tOk mixed fnsOk (B := []) trivial e19ok (n := 100000) (by kernel_rfl)
theorem k497 [Env] : Known Tryz.prog 18 [(i 8)] (.agg [(.sl [[(i 1), (i 0), (i 0), (sb []), nl, nl, (i 0), (i 0)]] true), (i 0)]) :=
  known_ofF tOk mixed fnsOk (B := []) trivial e18ok (n := 100000) (by kernel_rfl)
theorem k498 [Env] : Known Tryz.prog 19 [(i 8)] (.agg [(.sl [[(i 1), (i 0), (i 0), (sb []), nl, nl, (i 0), (i 0)]] true), (i 0)]) :=
  known_ofF tOk mixed fnsOk (B := []) trivial e19ok (n := 100000) (by kernel_rfl)
theorem k499 [Env] : Known Tryz.prog 18 [(i 9)] (.agg [(.sl [[(i 1), (i 0), (i 0), (sb []), nl, nl, (i 0), (i 0)]] true), (i 0)]) :=
  known_ofF tOk mixed fnsOk (B := []) trivial e18ok (n := 100000) (by kernel_rfl)
theorem k500 [Env] : Known Tryz.prog 19 [(i 9)] (.agg [(.sl [[(i 1), (i 0), (i 0), (sb []), nl, nl, (i 0), (i 0)]] true), (i 0)]) :=
  known_ofF tOk mixed fnsOk (B := []) trivial e19ok (n := 100000) (by kernel_rfl)
end Go.Ev
