/- Calls that are known, by running them. -/
import Derived.Test.YtaceidhlamlmhaaGreatEvVal
import Derived.Test.YtaceidhlamlmhaaGreatEvK8
set_option linter.all false
namespace Go.Ev
open Go.Proofs
theorem k568 [Env] : Known Tryz.prog 143 [(.agg [x146, (i 0)]), (.agg [(.sl [[(i 0)]] false), (.sl [[(i 24)]] false), (.v (.bool false))])] x168 :=
  known_ofF tOk mixed fnsOk (B := []) trivial e143ok (n := 100000) (by kernel_rfl)
theorem k569 [Env] : Known Tryz.prog 143 [(.agg [x146, (i 0)]), (.agg [(.sl [[(i 4)]] true), (.sl [[(i 31)]] false), (.v (.bool false))])] nl :=
  known_ofF tOk mixed fnsOk (B := []) trivial e143ok (n := 100000) (by kernel_rfl)
theorem k570 [Env] : Known Tryz.prog 143 [(.agg [x146, (i 0)]), (.agg [nl, (.sl [[(i 5)]] true), (.v (.bool false))])] nl :=
  known_ofF tOk mixed fnsOk (B := []) trivial e143ok (n := 100000) (by kernel_rfl)
theorem k571 [Env] : Known Tryz.prog 143 [(.agg [x146, (i 0)]), (.agg [(.sl [[(i 4)]] true), nl, (.v (.bool false))])] nl :=
  known_ofF tOk mixed fnsOk (B := []) trivial e143ok (n := 100000) (by kernel_rfl)
theorem k572 [Env] : Known Tryz.prog 143 [(.agg [x146, (i 0)]), (.agg [(.sl [[(i 32)]] false), (.sl [[(i 5)]] true), (.v (.bool false))])] nl :=
  known_ofF tOk mixed fnsOk (B := []) trivial e143ok (n := 100000) (by kernel_rfl)
theorem k573 [Env] : Known Tryz.prog 143 [(.agg [x146, (i 0)]), (.agg [(.sl [[(i 8)]] true), (.sl [[(i 35)]] false), (.v (.bool false))])] nl :=
  known_ofF tOk mixed fnsOk (B := []) trivial e143ok (n := 100000) (by kernel_rfl)
theorem k574 [Env] : Known Tryz.prog 143 [(.agg [x146, (i 0)]), (.agg [(.sl [[(i 9)]] true), nl, (.v (.bool false))])] nl :=
  known_ofF tOk mixed fnsOk (B := []) trivial e143ok (n := 100000) (by kernel_rfl)
theorem k575 [Env] : Known Tryz.prog 143 [(.agg [x146, (i 0)]), (.agg [nl, (.sl [[(i 10)]] true), (.v (.bool false))])] nl :=
  known_ofF tOk mixed fnsOk (B := []) trivial e143ok (n := 100000) (by kernel_rfl)
theorem k576 [Env] : Known Tryz.prog 143 [(.agg [x146, (i 0)]), (.agg [(.sl [[(i 8)]] true), nl, (.v (.bool false))])] nl :=
  known_ofF tOk mixed fnsOk (B := []) trivial e143ok (n := 100000) (by kernel_rfl)
theorem k577 [Env] : Known Tryz.prog 143 [(.agg [x146, (i 0)]), (.agg [(.sl [[(i 9)]] true), (.sl [[(i 35)]] false), (.v (.bool false))])] nl :=
  known_ofF tOk mixed fnsOk (B := []) trivial e143ok (n := 100000) (by kernel_rfl)
theorem k578 [Env] : Known Tryz.prog 143 [(.agg [x146, (i 0)]), (.agg [(.sl [[(i 36)]] false), (.sl [[(i 10)]] true), (.v (.bool false))])] nl :=
  known_ofF tOk mixed fnsOk (B := []) trivial e143ok (n := 100000) (by kernel_rfl)
theorem k579 [Env] : Known Tryz.prog 143 [(.agg [x146, (i 0)]), (.agg [(.sl [[(i 13)]] true), (.sl [[(i 39)]] false), (.v (.bool false))])] nl :=
  known_ofF tOk mixed fnsOk (B := []) trivial e143ok (n := 100000) (by kernel_rfl)
theorem k580 [Env] : Known Tryz.prog 143 [(.agg [x146, (i 0)]), (.agg [(.sl [[(i 14)]] true), nl, (.v (.bool false))])] nl :=
  known_ofF tOk mixed fnsOk (B := []) trivial e143ok (n := 100000) (by kernel_rfl)
theorem k581 [Env] : Known Tryz.prog 143 [(.agg [x146, (i 0)]), (.agg [(.sl [[(i 15)]] true), nl, (.v (.bool false))])] nl :=
  known_ofF tOk mixed fnsOk (B := []) trivial e143ok (n := 100000) (by kernel_rfl)
theorem k582 [Env] : Known Tryz.prog 143 [(.agg [x146, (i 0)]), (.agg [nl, (.sl [[(i 16)]] true), (.v (.bool false))])] nl :=
  known_ofF tOk mixed fnsOk (B := []) trivial e143ok (n := 100000) (by kernel_rfl)
theorem k583 [Env] : Known Tryz.prog 143 [(.agg [x146, (i 0)]), (.agg [(.sl [[(i 13)]] true), nl, (.v (.bool false))])] nl :=
  known_ofF tOk mixed fnsOk (B := []) trivial e143ok (n := 100000) (by kernel_rfl)
theorem k584 [Env] : Known Tryz.prog 143 [(.agg [x146, (i 0)]), (.agg [(.sl [[(i 14)]] true), (.sl [[(i 39)]] false), (.v (.bool false))])] nl :=
  known_ofF tOk mixed fnsOk (B := []) trivial e143ok (n := 100000) (by kernel_rfl)
theorem k585 [Env] : Known Tryz.prog 143 [(.agg [x146, (i 0)]), (.agg [(.sl [[(i 15)]] true), (.sl [[(i 39)]] false), (.v (.bool false))])] nl :=
  known_ofF tOk mixed fnsOk (B := []) trivial e143ok (n := 100000) (by kernel_rfl)
theorem k586 [Env] : Known Tryz.prog 143 [(.agg [x146, (i 0)]), (.agg [(.sl [[(i 40)]] false), (.sl [[(i 16)]] true), (.v (.bool false))])] nl :=
  known_ofF tOk mixed fnsOk (B := []) trivial e143ok (n := 100000) (by kernel_rfl)
theorem k587 [Env] : Known Tryz.prog 143 [(.agg [x146, (i 0)]), (.agg [(.sl [[(i 19)]] true), (.sl [[(i 43)]] false), (.v (.bool false))])] nl :=
  known_ofF tOk mixed fnsOk (B := []) trivial e143ok (n := 100000) (by kernel_rfl)
theorem k588 [Env] : Known Tryz.prog 143 [(.agg [x146, (i 0)]), (.agg [(.sl [[(i 20)]] true), nl, (.v (.bool false))])] nl :=
  known_ofF tOk mixed fnsOk (B := []) trivial e143ok (n := 100000) (by kernel_rfl)
theorem k589 [Env] : Known Tryz.prog 143 [(.agg [x146, (i 0)]), (.agg [(.sl [[(i 21)]] true), nl, (.v (.bool false))])] nl :=
  known_ofF tOk mixed fnsOk (B := []) trivial e143ok (n := 100000) (by kernel_rfl)
theorem k590 [Env] : Known Tryz.prog 143 [(.agg [x146, (i 0)]), (.agg [(.sl [[(i 22)]] true), nl, (.v (.bool false))])] nl :=
  known_ofF tOk mixed fnsOk (B := []) trivial e143ok (n := 100000) (by kernel_rfl)
theorem k591 [Env] : Known Tryz.prog 143 [(.agg [x146, (i 0)]), (.agg [nl, (.sl [[(i 23)]] true), (.v (.bool false))])] nl :=
  known_ofF tOk mixed fnsOk (B := []) trivial e143ok (n := 100000) (by kernel_rfl)
theorem k592 [Env] : Known Tryz.prog 143 [(.agg [x146, (i 0)]), (.agg [(.sl [[(i 19)]] true), nl, (.v (.bool false))])] nl :=
  known_ofF tOk mixed fnsOk (B := []) trivial e143ok (n := 100000) (by kernel_rfl)
theorem k593 [Env] : Known Tryz.prog 143 [(.agg [x146, (i 0)]), (.agg [(.sl [[(i 20)]] true), (.sl [[(i 43)]] false), (.v (.bool false))])] nl :=
  known_ofF tOk mixed fnsOk (B := []) trivial e143ok (n := 100000) (by kernel_rfl)
theorem k594 [Env] : Known Tryz.prog 143 [(.agg [x146, (i 0)]), (.agg [(.sl [[(i 21)]] true), (.sl [[(i 43)]] false), (.v (.bool false))])] nl :=
  known_ofF tOk mixed fnsOk (B := []) trivial e143ok (n := 100000) (by kernel_rfl)
theorem k595 [Env] : Known Tryz.prog 143 [(.agg [x146, (i 0)]), (.agg [(.sl [[(i 22)]] true), (.sl [[(i 43)]] false), (.v (.bool false))])] nl :=
  known_ofF tOk mixed fnsOk (B := []) trivial e143ok (n := 100000) (by kernel_rfl)
theorem k596 [Env] : Known Tryz.prog 143 [(.agg [x146, (i 0)]), (.agg [(.sl [[(i 44)]] false), (.sl [[(i 23)]] true), (.v (.bool false))])] nl :=
  known_ofF tOk mixed fnsOk (B := []) trivial e143ok (n := 100000) (by kernel_rfl)
theorem k597 [Env] : Known Tryz.prog 60 [(.agg [x146, (i 0)]), (.agg [(.sl [[(i 0)]] true), (.sl [[(i 24)]] true), (.v (.bool false))])] (i 0) :=
  known_ofF tOk mixed fnsOk (B := [(95, [([(.agg [x146, (i 0)])], (i 0))]), (143, [([(.agg [x146, (i 0)]), (.agg [(.sl [[(i 0)]] false), (.sl [[(i 24)]] false), (.v (.bool false))])], x168), ([(.agg [x146, (i 0)]), (.agg [(.sl [[(i 4)]] true), (.sl [[(i 31)]] false), (.v (.bool false))])], nl), ([(.agg [x146, (i 0)]), (.agg [nl, (.sl [[(i 5)]] true), (.v (.bool false))])], nl), ([(.agg [x146, (i 0)]), (.agg [(.sl [[(i 4)]] true), nl, (.v (.bool false))])], nl), ([(.agg [x146, (i 0)]), (.agg [(.sl [[(i 32)]] false), (.sl [[(i 5)]] true), (.v (.bool false))])], nl), ([(.agg [x146, (i 0)]), (.agg [(.sl [[(i 8)]] true), (.sl [[(i 35)]] false), (.v (.bool false))])], nl), ([(.agg [x146, (i 0)]), (.agg [(.sl [[(i 9)]] true), nl, (.v (.bool false))])], nl), ([(.agg [x146, (i 0)]), (.agg [nl, (.sl [[(i 10)]] true), (.v (.bool false))])], nl), ([(.agg [x146, (i 0)]), (.agg [(.sl [[(i 8)]] true), nl, (.v (.bool false))])], nl), ([(.agg [x146, (i 0)]), (.agg [(.sl [[(i 9)]] true), (.sl [[(i 35)]] false), (.v (.bool false))])], nl), ([(.agg [x146, (i 0)]), (.agg [(.sl [[(i 36)]] false), (.sl [[(i 10)]] true), (.v (.bool false))])], nl), ([(.agg [x146, (i 0)]), (.agg [(.sl [[(i 13)]] true), (.sl [[(i 39)]] false), (.v (.bool false))])], nl), ([(.agg [x146, (i 0)]), (.agg [(.sl [[(i 14)]] true), nl, (.v (.bool false))])], nl), ([(.agg [x146, (i 0)]), (.agg [(.sl [[(i 15)]] true), nl, (.v (.bool false))])], nl), ([(.agg [x146, (i 0)]), (.agg [nl, (.sl [[(i 16)]] true), (.v (.bool false))])], nl), ([(.agg [x146, (i 0)]), (.agg [(.sl [[(i 13)]] true), nl, (.v (.bool false))])], nl), ([(.agg [x146, (i 0)]), (.agg [(.sl [[(i 14)]] true), (.sl [[(i 39)]] false), (.v (.bool false))])], nl), ([(.agg [x146, (i 0)]), (.agg [(.sl [[(i 15)]] true), (.sl [[(i 39)]] false), (.v (.bool false))])], nl), ([(.agg [x146, (i 0)]), (.agg [(.sl [[(i 40)]] false), (.sl [[(i 16)]] true), (.v (.bool false))])], nl), ([(.agg [x146, (i 0)]), (.agg [(.sl [[(i 19)]] true), (.sl [[(i 43)]] false), (.v (.bool false))])], nl), ([(.agg [x146, (i 0)]), (.agg [(.sl [[(i 20)]] true), nl, (.v (.bool false))])], nl), ([(.agg [x146, (i 0)]), (.agg [(.sl [[(i 21)]] true), nl, (.v (.bool false))])], nl), ([(.agg [x146, (i 0)]), (.agg [(.sl [[(i 22)]] true), nl, (.v (.bool false))])], nl), ([(.agg [x146, (i 0)]), (.agg [nl, (.sl [[(i 23)]] true), (.v (.bool false))])], nl), ([(.agg [x146, (i 0)]), (.agg [(.sl [[(i 19)]] true), nl, (.v (.bool false))])], nl), ([(.agg [x146, (i 0)]), (.agg [(.sl [[(i 20)]] true), (.sl [[(i 43)]] false), (.v (.bool false))])], nl), ([(.agg [x146, (i 0)]), (.agg [(.sl [[(i 21)]] true), (.sl [[(i 43)]] false), (.v (.bool false))])], nl), ([(.agg [x146, (i 0)]), (.agg [(.sl [[(i 22)]] true), (.sl [[(i 43)]] false), (.v (.bool false))])], nl), ([(.agg [x146, (i 0)]), (.agg [(.sl [[(i 44)]] false), (.sl [[(i 23)]] true), (.v (.bool false))])], nl)])]) ⟨⟨k567, trivial⟩, ⟨k568, k569, k570, k571, k572, k573, k574, k575, k576, k577, k578, k579, k580, k581, k582, k583, k584, k585, k586, k587, k588, k589, k590, k591, k592, k593, k594, k595, k596, trivial⟩, trivial⟩ e60ok (n := 100000) (by kernel_rfl)
theorem k598 [Env] : Known Tryz.prog 28 [(.agg [x137, (i 0)]), (.agg [x145, (i 0)])] (.v (.bool true)) :=
  known_ofF tOk mixed fnsOk (B := [(95, [([(.agg [x137, (i 0)])], (i 0)), ([(.agg [x145, (i 0)])], (i 0))]), (60, [([(.agg [x146, (i 0)]), (.agg [(.sl [[(i 0)]] true), (.sl [[(i 24)]] true), (.v (.bool false))])], (i 0))])]) ⟨⟨k565, k566, trivial⟩, ⟨k597, trivial⟩, trivial⟩ e28ok (n := 100000) (by kernel_rfl)
theorem k599 [Env] : Known Tryz.prog 95 [(.agg [x169, (i 0)])] (i 0) :=
  known_ofF tOk mixed fnsOk (B := []) trivial e95ok (n := 100000) (by kernel_rfl)
end Go.Ev
