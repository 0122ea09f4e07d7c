/- Calls that are known, by running them. -/
import Derived.Test.YtaceidhlamlmhaaGreatEvVal
import Derived.Test.YtaceidhlamlmhaaGreatEvK0
import Derived.Test.YtaceidhlamlmhaaGreatEvK1
set_option linter.all false
namespace Go.Ev
open Go.Proofs
theorem k501 [Env] : Known Tryz.prog 95 [(.agg [(.sl [[(i 17), (i 0), (i 0), (sb []), (.sl [[(i 1)]] false), nl, (i 0), (i 0)], [(i 3), (j 9223372036854775807), (i 9223372036854775807), (sb []), nl, nl, (i 0), (i 0)]] false), (i 0)])] (i 0) :=
  known_ofF tOk mixed fnsOk (B := []) trivial e95ok (n := 100000) (by kernel_rfl)
theorem k502 [Env] : Known Tryz.prog 95 [(.agg [x102, (i 0)])] (i 0) :=
  known_ofF tOk mixed fnsOk (B := []) trivial e95ok (n := 100000) (by kernel_rfl)
theorem k503 [Env] : Known Tryz.prog 143 [(.agg [x102, (i 0)]), (.agg [(.sl [[(i 0)]] false), (.sl [[(i 2)]] false), (.v (.bool false))])] nl :=
  known_ofF tOk mixed fnsOk (B := []) trivial e143ok (n := 100000) (by kernel_rfl)
theorem k504 [Env] : Known Tryz.prog 60 [(.agg [x102, (i 0)]), (.agg [(.sl [[(i 0)]] true), (.sl [[(i 2)]] true), (.v (.bool false))])] (i 0) :=
  known_ofF tOk mixed fnsOk (B := [(95, [([(.agg [x102, (i 0)])], (i 0))]), (143, [([(.agg [x102, (i 0)]), (.agg [(.sl [[(i 0)]] false), (.sl [[(i 2)]] false), (.v (.bool false))])], nl)])]) ⟨⟨k502, trivial⟩, ⟨k503, trivial⟩, trivial⟩ e60ok (n := 100000) (by kernel_rfl)
theorem k505 [Env] : Known Tryz.prog 28 [(.agg [(.sl [[(i 17), (i 0), (i 0), (sb []), (.sl [[(i 1)]] false), nl, (i 0), (i 0)], [(i 3), (j 9223372036854775807), (i 9223372036854775807), (sb []), nl, nl, (i 0), (i 0)]] false), (i 0)]), (.agg [(.sl [[(i 3), (j 9223372036854775807), (i 9223372036854775807), (sb []), nl, nl, (i 0), (i 0)]] true), (i 0)])] (.v (.bool true)) :=
  known_ofF tOk mixed fnsOk (B := [(95, [([(.agg [(.sl [[(i 17), (i 0), (i 0), (sb []), (.sl [[(i 1)]] false), nl, (i 0), (i 0)], [(i 3), (j 9223372036854775807), (i 9223372036854775807), (sb []), nl, nl, (i 0), (i 0)]] false), (i 0)])], (i 0)), ([(.agg [(.sl [[(i 3), (j 9223372036854775807), (i 9223372036854775807), (sb []), nl, nl, (i 0), (i 0)]] true), (i 0)])], (i 0))]), (60, [([(.agg [x102, (i 0)]), (.agg [(.sl [[(i 0)]] true), (.sl [[(i 2)]] true), (.v (.bool false))])], (i 0))])]) ⟨⟨k501, k2, trivial⟩, ⟨k504, trivial⟩, trivial⟩ e28ok (n := 100000) (by kernel_rfl)
theorem k506 [Env] : Known Tryz.prog 95 [(.agg [x103, (i 0)])] (i 0) :=
  known_ofF tOk mixed fnsOk (B := []) trivial e95ok (n := 100000) (by kernel_rfl)
theorem k507 [Env] : Known Tryz.prog 143 [(.agg [x103, (i 0)]), (.agg [(.sl [[(i 0)]] false), (.sl [[(i 1)]] false), (.v (.bool false))])] nl :=
  known_ofF tOk mixed fnsOk (B := []) trivial e143ok (n := 100000) (by kernel_rfl)
theorem k508 [Env] : Known Tryz.prog 60 [(.agg [x103, (i 0)]), (.agg [(.sl [[(i 0)]] true), (.sl [[(i 1)]] true), (.v (.bool false))])] (i 0) :=
  known_ofF tOk mixed fnsOk (B := [(95, [([(.agg [x103, (i 0)])], (i 0))]), (143, [([(.agg [x103, (i 0)]), (.agg [(.sl [[(i 0)]] false), (.sl [[(i 1)]] false), (.v (.bool false))])], nl)])]) ⟨⟨k506, trivial⟩, ⟨k507, trivial⟩, trivial⟩ e60ok (n := 100000) (by kernel_rfl)
theorem k509 [Env] : Known Tryz.prog 28 [(.agg [(.sl [[(i 3), (j 9223372036854775807), (i 9223372036854775807), (sb []), nl, nl, (i 0), (i 0)]] true), (i 0)]), (.agg [(.sl [[(i 17), (i 0), (i 0), (sb []), (.sl [[(i 1)]] false), nl, (i 0), (i 0)], [(i 3), (j 9223372036854775807), (i 9223372036854775807), (sb []), nl, nl, (i 0), (i 0)]] false), (i 0)])] (.v (.bool true)) :=
  known_ofF tOk mixed fnsOk (B := [(95, [([(.agg [(.sl [[(i 3), (j 9223372036854775807), (i 9223372036854775807), (sb []), nl, nl, (i 0), (i 0)]] true), (i 0)])], (i 0)), ([(.agg [(.sl [[(i 17), (i 0), (i 0), (sb []), (.sl [[(i 1)]] false), nl, (i 0), (i 0)], [(i 3), (j 9223372036854775807), (i 9223372036854775807), (sb []), nl, nl, (i 0), (i 0)]] false), (i 0)])], (i 0))]), (60, [([(.agg [x103, (i 0)]), (.agg [(.sl [[(i 0)]] true), (.sl [[(i 1)]] true), (.v (.bool false))])], (i 0))])]) ⟨⟨k2, k501, trivial⟩, ⟨k508, trivial⟩, trivial⟩ e28ok (n := 100000) (by kernel_rfl)
theorem k510 [Env] : Known Tryz.prog 5 [(.agg [(.sl [[(i 17), (i 0), (i 0), (sb []), (.sl [[(i 1)]] false), nl, (i 0), (i 0)], [(i 3), (j 9223372036854775807), (i 9223372036854775807), (sb []), nl, nl, (i 0), (i 0)]] false), (i 0)]), (.agg [(.sl [[(i 3), (j 9223372036854775807), (i 9223372036854775807), (sb []), nl, nl, (i 0), (i 0)]] true), (i 0)])] (.v (.bool true)) :=
  known_ofF tOk mixed fnsOk (B := [(28, [([(.agg [(.sl [[(i 17), (i 0), (i 0), (sb []), (.sl [[(i 1)]] false), nl, (i 0), (i 0)], [(i 3), (j 9223372036854775807), (i 9223372036854775807), (sb []), nl, nl, (i 0), (i 0)]] false), (i 0)]), (.agg [(.sl [[(i 3), (j 9223372036854775807), (i 9223372036854775807), (sb []), nl, nl, (i 0), (i 0)]] true), (i 0)])], (.v (.bool true))), ([(.agg [(.sl [[(i 3), (j 9223372036854775807), (i 9223372036854775807), (sb []), nl, nl, (i 0), (i 0)]] true), (i 0)]), (.agg [(.sl [[(i 17), (i 0), (i 0), (sb []), (.sl [[(i 1)]] false), nl, (i 0), (i 0)], [(i 3), (j 9223372036854775807), (i 9223372036854775807), (sb []), nl, nl, (i 0), (i 0)]] false), (i 0)])], (.v (.bool true)))])]) ⟨⟨k505, k509, trivial⟩, trivial⟩ e5ok (n := 100000) (by kernel_rfl)
theorem k511 [Env] : Known Tryz.prog 95 [(.agg [x104, (i 0)])] (i 0) :=
  known_ofF tOk mixed fnsOk (B := [(33, [([(.agg [(i 0), (sb [97])])], (.v (.bool true)))])]) ⟨⟨k58, trivial⟩, trivial⟩ e95ok (n := 100000) (by kernel_rfl)
theorem k512 [Env] : Known Tryz.prog 95 [(.agg [x105, (i 0)])] (i 0) :=
  known_ofF tOk mixed fnsOk (B := [(33, [([(.agg [(i 0), (sb [97])])], (.v (.bool true)))])]) ⟨⟨k58, trivial⟩, trivial⟩ e95ok (n := 100000) (by kernel_rfl)
theorem k513 [Env] : Known Tryz.prog 143 [(.agg [x105, (i 0)]), (.agg [(.sl [[(i 0)]] false), (.sl [[(i 3)]] false), (.v (.bool false))])] x106 :=
  known_ofF tOk mixed fnsOk (B := []) trivial e143ok (n := 100000) (by kernel_rfl)
theorem k514 [Env] : Known Tryz.prog 143 [(.agg [x105, (i 0)]), (.agg [(.sl [[(i 2)]] false), (.sl [[(i 4)]] false), (.v (.bool false))])] nl :=
  known_ofF tOk mixed fnsOk (B := []) trivial e143ok (n := 100000) (by kernel_rfl)
theorem k515 [Env] : Known Tryz.prog 143 [(.agg [x105, (i 0)]), (.agg [(.sl [[(i 2)]] false), nl, (.v (.bool false))])] x8 :=
  known_ofF tOk mixed fnsOk (B := []) trivial e143ok (n := 100000) (by kernel_rfl)
theorem k516 [Env] : Known Tryz.prog 143 [(.agg [x105, (i 0)]), (.agg [nl, nl, (.v (.bool false))])] x8 :=
  known_ofF tOk mixed fnsOk (B := []) trivial e143ok (n := 100000) (by kernel_rfl)
theorem k517 [Env] : Known Tryz.prog 143 [(.agg [x105, (i 0)]), (.agg [nl, nl, (.v (.bool true))])] (.sl [[(i 5), (i 0), nl], [(i 7), (i 0), (.sl [[(.sl [[(.sl [[nl, nl, (.v (.bool false))], [nl, nl, (.v (.bool true))]] false)]] true)]] true)]] false) :=
  known_ofF tOk mixed fnsOk (B := []) trivial e143ok (n := 100000) (by kernel_rfl)
theorem k518 [Env] : Known Tryz.prog 60 [(.agg [x105, (i 0)]), (.agg [(.sl [[(i 0)]] true), (.sl [[(i 3)]] true), (.v (.bool false))])] (i 0) :=
  known_ofF tOk mixed fnsOk (B := [(95, [([(.agg [x105, (i 0)])], (i 0))]), (143, [([(.agg [x105, (i 0)]), (.agg [(.sl [[(i 0)]] false), (.sl [[(i 3)]] false), (.v (.bool false))])], x106), ([(.agg [x105, (i 0)]), (.agg [(.sl [[(i 2)]] false), (.sl [[(i 4)]] false), (.v (.bool false))])], nl), ([(.agg [x105, (i 0)]), (.agg [(.sl [[(i 2)]] false), nl, (.v (.bool false))])], x8), ([(.agg [x105, (i 0)]), (.agg [nl, nl, (.v (.bool false))])], x8), ([(.agg [x105, (i 0)]), (.agg [nl, nl, (.v (.bool true))])], (.sl [[(i 5), (i 0), nl], [(i 7), (i 0), (.sl [[(.sl [[(.sl [[nl, nl, (.v (.bool false))], [nl, nl, (.v (.bool true))]] false)]] true)]] true)]] false))])]) ⟨⟨k512, trivial⟩, ⟨k513, k514, k515, k516, k517, trivial⟩, trivial⟩ e60ok (n := 100000) (by kernel_rfl)
theorem k519 [Env] : Known Tryz.prog 28 [(.agg [x104, (i 0)]), (.agg [(.sl [[(i 13), (i 0), (i 0), (sb []), nl, (.sl [[(i 0), (sb [97]), (i 1), (.v (.bool false))]] true), (i 1), (i 1)], [(i 2), (i 0), (i 0), (sb []), nl, nl, (i 0), (i 0)]] true), (i 0)])] (.v (.bool true)) :=
  known_ofF tOk mixed fnsOk (B := [(95, [([(.agg [x104, (i 0)])], (i 0)), ([(.agg [(.sl [[(i 13), (i 0), (i 0), (sb []), nl, (.sl [[(i 0), (sb [97]), (i 1), (.v (.bool false))]] true), (i 1), (i 1)], [(i 2), (i 0), (i 0), (sb []), nl, nl, (i 0), (i 0)]] true), (i 0)])], (i 0))]), (60, [([(.agg [x105, (i 0)]), (.agg [(.sl [[(i 0)]] true), (.sl [[(i 3)]] true), (.v (.bool false))])], (i 0))])]) ⟨⟨k511, k61, trivial⟩, ⟨k518, trivial⟩, trivial⟩ e28ok (n := 100000) (by kernel_rfl)
theorem k520 [Env] : Known Tryz.prog 95 [(.agg [x107, (i 0)])] (i 0) :=
  known_ofF tOk mixed fnsOk (B := [(33, [([(.agg [(i 0), (sb [97])])], (.v (.bool true)))])]) ⟨⟨k58, trivial⟩, trivial⟩ e95ok (n := 100000) (by kernel_rfl)
theorem k521 [Env] : Known Tryz.prog 143 [(.agg [x107, (i 0)]), (.agg [(.sl [[(i 0)]] false), (.sl [[(i 2)]] false), (.v (.bool false))])] x108 :=
  known_ofF tOk mixed fnsOk (B := []) trivial e143ok (n := 100000) (by kernel_rfl)
theorem k522 [Env] : Known Tryz.prog 143 [(.agg [x107, (i 0)]), (.agg [(.sl [[(i 1)]] false), (.sl [[(i 4)]] false), (.v (.bool false))])] nl :=
  known_ofF tOk mixed fnsOk (B := []) trivial e143ok (n := 100000) (by kernel_rfl)
theorem k523 [Env] : Known Tryz.prog 143 [(.agg [x107, (i 0)]), (.agg [(.sl [[(i 1)]] false), nl, (.v (.bool false))])] x8 :=
  known_ofF tOk mixed fnsOk (B := []) trivial e143ok (n := 100000) (by kernel_rfl)
theorem k524 [Env] : Known Tryz.prog 143 [(.agg [x107, (i 0)]), (.agg [nl, nl, (.v (.bool false))])] x8 :=
  known_ofF tOk mixed fnsOk (B := []) trivial e143ok (n := 100000) (by kernel_rfl)
theorem k525 [Env] : Known Tryz.prog 143 [(.agg [x107, (i 0)]), (.agg [nl, nl, (.v (.bool true))])] (.sl [[(i 5), (i 0), nl], [(i 7), (i 0), (.sl [[(.sl [[(.sl [[nl, nl, (.v (.bool false))], [nl, nl, (.v (.bool true))]] false)]] true)]] true)]] false) :=
  known_ofF tOk mixed fnsOk (B := []) trivial e143ok (n := 100000) (by kernel_rfl)
theorem k526 [Env] : Known Tryz.prog 60 [(.agg [x107, (i 0)]), (.agg [(.sl [[(i 0)]] true), (.sl [[(i 2)]] true), (.v (.bool false))])] (i 0) :=
  known_ofF tOk mixed fnsOk (B := [(95, [([(.agg [x107, (i 0)])], (i 0))]), (143, [([(.agg [x107, (i 0)]), (.agg [(.sl [[(i 0)]] false), (.sl [[(i 2)]] false), (.v (.bool false))])], x108), ([(.agg [x107, (i 0)]), (.agg [(.sl [[(i 1)]] false), (.sl [[(i 4)]] false), (.v (.bool false))])], nl), ([(.agg [x107, (i 0)]), (.agg [(.sl [[(i 1)]] false), nl, (.v (.bool false))])], x8), ([(.agg [x107, (i 0)]), (.agg [nl, nl, (.v (.bool false))])], x8), ([(.agg [x107, (i 0)]), (.agg [nl, nl, (.v (.bool true))])], (.sl [[(i 5), (i 0), nl], [(i 7), (i 0), (.sl [[(.sl [[(.sl [[nl, nl, (.v (.bool false))], [nl, nl, (.v (.bool true))]] false)]] true)]] true)]] false))])]) ⟨⟨k520, trivial⟩, ⟨k521, k522, k523, k524, k525, trivial⟩, trivial⟩ e60ok (n := 100000) (by kernel_rfl)
theorem k527 [Env] : Known Tryz.prog 28 [(.agg [(.sl [[(i 13), (i 0), (i 0), (sb []), nl, (.sl [[(i 0), (sb [97]), (i 1), (.v (.bool false))]] true), (i 1), (i 1)], [(i 2), (i 0), (i 0), (sb []), nl, nl, (i 0), (i 0)]] true), (i 0)]), (.agg [x104, (i 0)])] (.v (.bool true)) :=
  known_ofF tOk mixed fnsOk (B := [(95, [([(.agg [(.sl [[(i 13), (i 0), (i 0), (sb []), nl, (.sl [[(i 0), (sb [97]), (i 1), (.v (.bool false))]] true), (i 1), (i 1)], [(i 2), (i 0), (i 0), (sb []), nl, nl, (i 0), (i 0)]] true), (i 0)])], (i 0)), ([(.agg [x104, (i 0)])], (i 0))]), (60, [([(.agg [x107, (i 0)]), (.agg [(.sl [[(i 0)]] true), (.sl [[(i 2)]] true), (.v (.bool false))])], (i 0))])]) ⟨⟨k61, k511, trivial⟩, ⟨k526, trivial⟩, trivial⟩ e28ok (n := 100000) (by kernel_rfl)
theorem k528 [Env] : Known Tryz.prog 5 [(.agg [x104, (i 0)]), (.agg [(.sl [[(i 13), (i 0), (i 0), (sb []), nl, (.sl [[(i 0), (sb [97]), (i 1), (.v (.bool false))]] true), (i 1), (i 1)], [(i 2), (i 0), (i 0), (sb []), nl, nl, (i 0), (i 0)]] true), (i 0)])] (.v (.bool true)) :=
  known_ofF tOk mixed fnsOk (B := [(28, [([(.agg [x104, (i 0)]), (.agg [(.sl [[(i 13), (i 0), (i 0), (sb []), nl, (.sl [[(i 0), (sb [97]), (i 1), (.v (.bool false))]] true), (i 1), (i 1)], [(i 2), (i 0), (i 0), (sb []), nl, nl, (i 0), (i 0)]] true), (i 0)])], (.v (.bool true))), ([(.agg [(.sl [[(i 13), (i 0), (i 0), (sb []), nl, (.sl [[(i 0), (sb [97]), (i 1), (.v (.bool false))]] true), (i 1), (i 1)], [(i 2), (i 0), (i 0), (sb []), nl, nl, (i 0), (i 0)]] true), (i 0)]), (.agg [x104, (i 0)])], (.v (.bool true)))])]) ⟨⟨k519, k527, trivial⟩, trivial⟩ e5ok (n := 100000) (by kernel_rfl)
theorem k529 [Env] : Known Tryz.prog 95 [(.agg [(.sl [[(i 2), (i 0), (i 0), (sb []), nl, nl, (i 0), (i 0)]] true), (i 0)])] (i 0) :=
  known_ofF tOk mixed fnsOk (B := []) trivial e95ok (n := 100000) (by kernel_rfl)
theorem k530 [Env] : Known Tryz.prog 95 [(.agg [(.sl [[(i 2), (i 0), (i 0), (sb []), nl, nl, (i 0), (i 0)], [(i 2), (i 0), (i 0), (sb []), nl, nl, (i 0), (i 0)]] false), (i 0)])] (i 0) :=
  known_ofF tOk mixed fnsOk (B := []) trivial e95ok (n := 100000) (by kernel_rfl)
theorem k531 [Env] : Known Tryz.prog 143 [(.agg [(.sl [[(i 2), (i 0), (i 0), (sb []), nl, nl, (i 0), (i 0)], [(i 2), (i 0), (i 0), (sb []), nl, nl, (i 0), (i 0)]] false), (i 0)]), (.agg [(.sl [[(i 0)]] false), (.sl [[(i 1)]] false), (.v (.bool false))])] nl :=
  known_ofF tOk mixed fnsOk (B := []) trivial e143ok (n := 100000) (by kernel_rfl)
theorem k532 [Env] : Known Tryz.prog 60 [(.agg [(.sl [[(i 2), (i 0), (i 0), (sb []), nl, nl, (i 0), (i 0)], [(i 2), (i 0), (i 0), (sb []), nl, nl, (i 0), (i 0)]] false), (i 0)]), (.agg [(.sl [[(i 0)]] true), (.sl [[(i 1)]] true), (.v (.bool false))])] (i 0) :=
  known_ofF tOk mixed fnsOk (B := [(95, [([(.agg [(.sl [[(i 2), (i 0), (i 0), (sb []), nl, nl, (i 0), (i 0)], [(i 2), (i 0), (i 0), (sb []), nl, nl, (i 0), (i 0)]] false), (i 0)])], (i 0))]), (143, [([(.agg [(.sl [[(i 2), (i 0), (i 0), (sb []), nl, nl, (i 0), (i 0)], [(i 2), (i 0), (i 0), (sb []), nl, nl, (i 0), (i 0)]] false), (i 0)]), (.agg [(.sl [[(i 0)]] false), (.sl [[(i 1)]] false), (.v (.bool false))])], nl)])]) ⟨⟨k530, trivial⟩, ⟨k531, trivial⟩, trivial⟩ e60ok (n := 100000) (by kernel_rfl)
theorem k533 [Env] : Known Tryz.prog 28 [(.agg [(.sl [[(i 2), (i 0), (i 0), (sb []), nl, nl, (i 0), (i 0)]] true), (i 0)]), (.agg [(.sl [[(i 2), (i 0), (i 0), (sb []), nl, nl, (i 0), (i 0)]] true), (i 0)])] (.v (.bool true)) :=
  known_ofF tOk mixed fnsOk (B := [(95, [([(.agg [(.sl [[(i 2), (i 0), (i 0), (sb []), nl, nl, (i 0), (i 0)]] true), (i 0)])], (i 0))]), (60, [([(.agg [(.sl [[(i 2), (i 0), (i 0), (sb []), nl, nl, (i 0), (i 0)], [(i 2), (i 0), (i 0), (sb []), nl, nl, (i 0), (i 0)]] false), (i 0)]), (.agg [(.sl [[(i 0)]] true), (.sl [[(i 1)]] true), (.v (.bool false))])], (i 0))])]) ⟨⟨k529, trivial⟩, ⟨k532, trivial⟩, trivial⟩ e28ok (n := 100000) (by kernel_rfl)
theorem k534 [Env] : Known Tryz.prog 5 [(.agg [(.sl [[(i 2), (i 0), (i 0), (sb []), nl, nl, (i 0), (i 0)]] true), (i 0)]), (.agg [(.sl [[(i 2), (i 0), (i 0), (sb []), nl, nl, (i 0), (i 0)]] true), (i 0)])] (.v (.bool true)) :=
  known_ofF tOk mixed fnsOk (B := [(28, [([(.agg [(.sl [[(i 2), (i 0), (i 0), (sb []), nl, nl, (i 0), (i 0)]] true), (i 0)]), (.agg [(.sl [[(i 2), (i 0), (i 0), (sb []), nl, nl, (i 0), (i 0)]] true), (i 0)])], (.v (.bool true)))])]) ⟨⟨k533, trivial⟩, trivial⟩ e5ok (n := 100000) (by kernel_rfl)
theorem k535 [Env] : Known Tryz.prog 24 [] (.v (.bool true)) :=
  known_ofF tOk mixed fnsOk (B := [(6, [([], (.agg [(.sl [[(i 3), (j 9223372036854775807), (i 9223372036854775807), (sb []), nl, nl, (i 0), (i 0)]] true), (i 0)]))]), (14, [([(.agg [(i 0), (sb [97])])], (.agg [(.sl [[(i 13), (i 0), (i 0), (sb []), nl, (.sl [[(i 0), (sb [97]), (i 1), (.v (.bool false))]] true), (i 1), (i 1)], [(i 2), (i 0), (i 0), (sb []), nl, nl, (i 0), (i 0)]] false), (i 0)]))]), (7, [([], (.agg [(.sl [[(i 3), (j 9223372036854775807), (i 9223372036854775807), (sb []), nl, nl, (i 0), (i 0)]] true), (i 0)]))]), (5, [([(.agg [(.sl [[(i 17), (i 0), (i 0), (sb []), (.sl [[(i 1)]] false), nl, (i 0), (i 0)], [(i 3), (j 9223372036854775807), (i 9223372036854775807), (sb []), nl, nl, (i 0), (i 0)]] false), (i 0)]), (.agg [(.sl [[(i 3), (j 9223372036854775807), (i 9223372036854775807), (sb []), nl, nl, (i 0), (i 0)]] true), (i 0)])], (.v (.bool true))), ([(.agg [x104, (i 0)]), (.agg [(.sl [[(i 13), (i 0), (i 0), (sb []), nl, (.sl [[(i 0), (sb [97]), (i 1), (.v (.bool false))]] true), (i 1), (i 1)], [(i 2), (i 0), (i 0), (sb []), nl, nl, (i 0), (i 0)]] true), (i 0)])], (.v (.bool true))), ([(.agg [(.sl [[(i 2), (i 0), (i 0), (sb []), nl, nl, (i 0), (i 0)]] true), (i 0)]), (.agg [(.sl [[(i 2), (i 0), (i 0), (sb []), nl, nl, (i 0), (i 0)]] true), (i 0)])], (.v (.bool true)))]), (31, [([(.agg [(i 0), (sb [97])])], (.v (.bool true)))]), (15, [([(.agg [(i 0), (sb [97])])], (.agg [(.sl [[(i 13), (i 0), (i 0), (sb []), nl, (.sl [[(i 0), (sb [97]), (i 1), (.v (.bool false))]] true), (i 1), (i 1)], [(i 2), (i 0), (i 0), (sb []), nl, nl, (i 0), (i 0)]] true), (i 0)]))])]) ⟨⟨k0, trivial⟩, ⟨k57, trivial⟩, ⟨k1, trivial⟩, ⟨k510, k528, k534, trivial⟩, ⟨k56, trivial⟩, ⟨k59, trivial⟩, trivial⟩ e24ok (n := 100000) (by kernel_rfl)
theorem k536 [Env] : Known Tryz.prog 16 [] (.agg [x110, (i 0)]) :=
  known_ofF tOk mixed fnsOk (B := []) trivial e16ok (n := 100000) (by kernel_rfl)
theorem k537 [Env] : Known Tryz.prog 17 [] (.agg [x111, (i 0)]) :=
  known_ofF tOk mixed fnsOk (B := []) trivial e17ok (n := 100000) (by kernel_rfl)
theorem k538 [Env] : Known Tryz.prog 95 [(.agg [x110, (i 0)])] (i 0) :=
  known_ofF tOk mixed fnsOk (B := []) trivial e95ok (n := 100000) (by kernel_rfl)
theorem k539 [Env] : Known Tryz.prog 95 [(.agg [x111, (i 0)])] (i 0) :=
  known_ofF tOk mixed fnsOk (B := []) trivial e95ok (n := 100000) (by kernel_rfl)
theorem k540 [Env] : Known Tryz.prog 95 [(.agg [x113, (i 0)])] (i 0) :=
  known_ofF tOk mixed fnsOk (B := []) trivial e95ok (n := 100000) (by kernel_rfl)
theorem k541 [Env] : Known Tryz.prog 143 [(.agg [x113, (i 0)]), (.agg [(.sl [[(i 0)]] false), (.sl [[(i 13)]] false), (.v (.bool false))])] x129 :=
  known_ofF tOk mixed fnsOk (B := []) trivial e143ok (n := 100000) (by kernel_rfl)
theorem k542 [Env] : Known Tryz.prog 143 [(.agg [x113, (i 0)]), (.agg [(.sl [[(i 0)]] false), nl, (.v (.bool true))])] x130 :=
  known_ofF tOk mixed fnsOk (B := []) trivial e143ok (n := 100000) (by kernel_rfl)
end Go.Ev
