/- Calls that are known, by running them. -/
import Derived.Test.YtaceidhlamlmhaaGreatEvVal
import Derived.Test.YtaceidhlamlmhaaGreatEvK8
import Derived.Test.YtaceidhlamlmhaaGreatEvK9
set_option linter.all false
namespace Go.Ev
open Go.Proofs
theorem k600 [Env] : Known Tryz.prog 143 [(.agg [x169, (i 0)]), (.agg [(.sl [[(i 0)]] false), (.sl [[(i 21)]] false), (.v (.bool false))])] x191 :=
  known_ofF tOk mixed fnsOk (B := []) trivial e143ok (n := 100000) (by kernel_rfl)
theorem k601 [Env] : Known Tryz.prog 143 [(.agg [x169, (i 0)]), (.agg [(.sl [[(i 7)]] true), (.sl [[(i 25)]] false), (.v (.bool false))])] nl :=
  known_ofF tOk mixed fnsOk (B := []) trivial e143ok (n := 100000) (by kernel_rfl)
theorem k602 [Env] : Known Tryz.prog 143 [(.agg [x169, (i 0)]), (.agg [nl, (.sl [[(i 8)]] true), (.v (.bool false))])] nl :=
  known_ofF tOk mixed fnsOk (B := []) trivial e143ok (n := 100000) (by kernel_rfl)
theorem k603 [Env] : Known Tryz.prog 143 [(.agg [x169, (i 0)]), (.agg [(.sl [[(i 7)]] true), nl, (.v (.bool false))])] nl :=
  known_ofF tOk mixed fnsOk (B := []) trivial e143ok (n := 100000) (by kernel_rfl)
theorem k604 [Env] : Known Tryz.prog 143 [(.agg [x169, (i 0)]), (.agg [(.sl [[(i 26)]] false), (.sl [[(i 8)]] true), (.v (.bool false))])] nl :=
  known_ofF tOk mixed fnsOk (B := []) trivial e143ok (n := 100000) (by kernel_rfl)
theorem k605 [Env] : Known Tryz.prog 143 [(.agg [x169, (i 0)]), (.agg [(.sl [[(i 11)]] true), (.sl [[(i 29)]] false), (.v (.bool false))])] nl :=
  known_ofF tOk mixed fnsOk (B := []) trivial e143ok (n := 100000) (by kernel_rfl)
theorem k606 [Env] : Known Tryz.prog 143 [(.agg [x169, (i 0)]), (.agg [(.sl [[(i 11)]] true), nl, (.v (.bool false))])] nl :=
  known_ofF tOk mixed fnsOk (B := []) trivial e143ok (n := 100000) (by kernel_rfl)
theorem k607 [Env] : Known Tryz.prog 143 [(.agg [x169, (i 0)]), (.agg [nl, (.sl [[(i 12)]] true), (.v (.bool false))])] nl :=
  known_ofF tOk mixed fnsOk (B := []) trivial e143ok (n := 100000) (by kernel_rfl)
theorem k608 [Env] : Known Tryz.prog 143 [(.agg [x169, (i 0)]), (.agg [(.sl [[(i 11)]] true), (.sl [[(i 30)]] false), (.v (.bool false))])] nl :=
  known_ofF tOk mixed fnsOk (B := []) trivial e143ok (n := 100000) (by kernel_rfl)
theorem k609 [Env] : Known Tryz.prog 143 [(.agg [x169, (i 0)]), (.agg [(.sl [[(i 31)]] false), (.sl [[(i 12)]] true), (.v (.bool false))])] nl :=
  known_ofF tOk mixed fnsOk (B := []) trivial e143ok (n := 100000) (by kernel_rfl)
theorem k610 [Env] : Known Tryz.prog 143 [(.agg [x169, (i 0)]), (.agg [(.sl [[(i 15)]] true), (.sl [[(i 34)]] false), (.v (.bool false))])] nl :=
  known_ofF tOk mixed fnsOk (B := []) trivial e143ok (n := 100000) (by kernel_rfl)
theorem k611 [Env] : Known Tryz.prog 143 [(.agg [x169, (i 0)]), (.agg [(.sl [[(i 15)]] true), nl, (.v (.bool false))])] nl :=
  known_ofF tOk mixed fnsOk (B := []) trivial e143ok (n := 100000) (by kernel_rfl)
theorem k612 [Env] : Known Tryz.prog 143 [(.agg [x169, (i 0)]), (.agg [nl, (.sl [[(i 16)]] true), (.v (.bool false))])] nl :=
  known_ofF tOk mixed fnsOk (B := []) trivial e143ok (n := 100000) (by kernel_rfl)
theorem k613 [Env] : Known Tryz.prog 143 [(.agg [x169, (i 0)]), (.agg [(.sl [[(i 15)]] true), (.sl [[(i 35)]] false), (.v (.bool false))])] nl :=
  known_ofF tOk mixed fnsOk (B := []) trivial e143ok (n := 100000) (by kernel_rfl)
theorem k614 [Env] : Known Tryz.prog 143 [(.agg [x169, (i 0)]), (.agg [(.sl [[(i 15)]] true), (.sl [[(i 36)]] false), (.v (.bool false))])] nl :=
  known_ofF tOk mixed fnsOk (B := []) trivial e143ok (n := 100000) (by kernel_rfl)
theorem k615 [Env] : Known Tryz.prog 143 [(.agg [x169, (i 0)]), (.agg [(.sl [[(i 37)]] false), (.sl [[(i 16)]] true), (.v (.bool false))])] nl :=
  known_ofF tOk mixed fnsOk (B := []) trivial e143ok (n := 100000) (by kernel_rfl)
theorem k616 [Env] : Known Tryz.prog 143 [(.agg [x169, (i 0)]), (.agg [(.sl [[(i 19)]] true), (.sl [[(i 40)]] false), (.v (.bool false))])] nl :=
  known_ofF tOk mixed fnsOk (B := []) trivial e143ok (n := 100000) (by kernel_rfl)
theorem k617 [Env] : Known Tryz.prog 143 [(.agg [x169, (i 0)]), (.agg [(.sl [[(i 19)]] true), nl, (.v (.bool false))])] nl :=
  known_ofF tOk mixed fnsOk (B := []) trivial e143ok (n := 100000) (by kernel_rfl)
theorem k618 [Env] : Known Tryz.prog 143 [(.agg [x169, (i 0)]), (.agg [nl, (.sl [[(i 20)]] true), (.v (.bool false))])] nl :=
  known_ofF tOk mixed fnsOk (B := []) trivial e143ok (n := 100000) (by kernel_rfl)
theorem k619 [Env] : Known Tryz.prog 143 [(.agg [x169, (i 0)]), (.agg [(.sl [[(i 19)]] true), (.sl [[(i 41)]] false), (.v (.bool false))])] nl :=
  known_ofF tOk mixed fnsOk (B := []) trivial e143ok (n := 100000) (by kernel_rfl)
theorem k620 [Env] : Known Tryz.prog 143 [(.agg [x169, (i 0)]), (.agg [(.sl [[(i 19)]] true), (.sl [[(i 42)]] false), (.v (.bool false))])] nl :=
  known_ofF tOk mixed fnsOk (B := []) trivial e143ok (n := 100000) (by kernel_rfl)
theorem k621 [Env] : Known Tryz.prog 143 [(.agg [x169, (i 0)]), (.agg [(.sl [[(i 19)]] true), (.sl [[(i 43)]] false), (.v (.bool false))])] nl :=
  known_ofF tOk mixed fnsOk (B := []) trivial e143ok (n := 100000) (by kernel_rfl)
theorem k622 [Env] : Known Tryz.prog 143 [(.agg [x169, (i 0)]), (.agg [(.sl [[(i 44)]] false), (.sl [[(i 20)]] true), (.v (.bool false))])] nl :=
  known_ofF tOk mixed fnsOk (B := []) trivial e143ok (n := 100000) (by kernel_rfl)
theorem k623 [Env] : Known Tryz.prog 60 [(.agg [x169, (i 0)]), (.agg [(.sl [[(i 0)]] true), (.sl [[(i 21)]] true), (.v (.bool false))])] (i 0) :=
  known_ofF tOk mixed fnsOk (B := [(95, [([(.agg [x169, (i 0)])], (i 0))]), (143, [([(.agg [x169, (i 0)]), (.agg [(.sl [[(i 0)]] false), (.sl [[(i 21)]] false), (.v (.bool false))])], x191), ([(.agg [x169, (i 0)]), (.agg [(.sl [[(i 7)]] true), (.sl [[(i 25)]] false), (.v (.bool false))])], nl), ([(.agg [x169, (i 0)]), (.agg [nl, (.sl [[(i 8)]] true), (.v (.bool false))])], nl), ([(.agg [x169, (i 0)]), (.agg [(.sl [[(i 7)]] true), nl, (.v (.bool false))])], nl), ([(.agg [x169, (i 0)]), (.agg [(.sl [[(i 26)]] false), (.sl [[(i 8)]] true), (.v (.bool false))])], nl), ([(.agg [x169, (i 0)]), (.agg [(.sl [[(i 11)]] true), (.sl [[(i 29)]] false), (.v (.bool false))])], nl), ([(.agg [x169, (i 0)]), (.agg [(.sl [[(i 11)]] true), nl, (.v (.bool false))])], nl), ([(.agg [x169, (i 0)]), (.agg [nl, (.sl [[(i 12)]] true), (.v (.bool false))])], nl), ([(.agg [x169, (i 0)]), (.agg [(.sl [[(i 11)]] true), (.sl [[(i 30)]] false), (.v (.bool false))])], nl), ([(.agg [x169, (i 0)]), (.agg [(.sl [[(i 31)]] false), (.sl [[(i 12)]] true), (.v (.bool false))])], nl), ([(.agg [x169, (i 0)]), (.agg [(.sl [[(i 15)]] true), (.sl [[(i 34)]] false), (.v (.bool false))])], nl), ([(.agg [x169, (i 0)]), (.agg [(.sl [[(i 15)]] true), nl, (.v (.bool false))])], nl), ([(.agg [x169, (i 0)]), (.agg [nl, (.sl [[(i 16)]] true), (.v (.bool false))])], nl), ([(.agg [x169, (i 0)]), (.agg [(.sl [[(i 15)]] true), (.sl [[(i 35)]] false), (.v (.bool false))])], nl), ([(.agg [x169, (i 0)]), (.agg [(.sl [[(i 15)]] true), (.sl [[(i 36)]] false), (.v (.bool false))])], nl), ([(.agg [x169, (i 0)]), (.agg [(.sl [[(i 37)]] false), (.sl [[(i 16)]] true), (.v (.bool false))])], nl), ([(.agg [x169, (i 0)]), (.agg [(.sl [[(i 19)]] true), (.sl [[(i 40)]] false), (.v (.bool false))])], nl), ([(.agg [x169, (i 0)]), (.agg [(.sl [[(i 19)]] true), nl, (.v (.bool false))])], nl), ([(.agg [x169, (i 0)]), (.agg [nl, (.sl [[(i 20)]] true), (.v (.bool false))])], nl), ([(.agg [x169, (i 0)]), (.agg [(.sl [[(i 19)]] true), (.sl [[(i 41)]] false), (.v (.bool false))])], nl), ([(.agg [x169, (i 0)]), (.agg [(.sl [[(i 19)]] true), (.sl [[(i 42)]] false), (.v (.bool false))])], nl), ([(.agg [x169, (i 0)]), (.agg [(.sl [[(i 19)]] true), (.sl [[(i 43)]] false), (.v (.bool false))])], nl), ([(.agg [x169, (i 0)]), (.agg [(.sl [[(i 44)]] false), (.sl [[(i 20)]] true), (.v (.bool false))])], nl)])]) ⟨⟨k599, trivial⟩, ⟨k600, k601, k602, k603, k604, k605, k606, k607, k608, k609, k610, k611, k612, k613, k614, k615, k616, k617, k618, k619, k620, k621, k622, trivial⟩, trivial⟩ e60ok (n := 100000) (by kernel_rfl)
theorem k624 [Env] : Known Tryz.prog 28 [(.agg [x145, (i 0)]), (.agg [x137, (i 0)])] (.v (.bool true)) :=
  known_ofF tOk mixed fnsOk (B := [(95, [([(.agg [x145, (i 0)])], (i 0)), ([(.agg [x137, (i 0)])], (i 0))]), (60, [([(.agg [x169, (i 0)]), (.agg [(.sl [[(i 0)]] true), (.sl [[(i 21)]] true), (.v (.bool false))])], (i 0))])]) ⟨⟨k566, k565, trivial⟩, ⟨k623, trivial⟩, trivial⟩ e28ok (n := 100000) (by kernel_rfl)
theorem k625 [Env] : Known Tryz.prog 5 [(.agg [x137, (i 0)]), (.agg [x145, (i 0)])] (.v (.bool true)) :=
  known_ofF tOk mixed fnsOk (B := [(28, [([(.agg [x137, (i 0)]), (.agg [x145, (i 0)])], (.v (.bool true))), ([(.agg [x145, (i 0)]), (.agg [x137, (i 0)])], (.v (.bool true)))])]) ⟨⟨k598, k624, trivial⟩, trivial⟩ e5ok (n := 100000) (by kernel_rfl)
end Go.Ev
