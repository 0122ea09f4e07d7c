/- Calls that are known, by running them. -/
import Derived.Test.YtaceidhlamlmhaaGreatEvVal
import Derived.Test.YtaceidhlamlmhaaGreatEvK5
import Derived.Test.YtaceidhlamlmhaaGreatEvK6
set_option linter.all false
namespace Go.Ev
open Go.Proofs
theorem k549 [Env] : Known Tryz.prog 143 [(.agg [x136, (i 0)]), (.agg [(.sl [[(i 0)]] false), nl, (.v (.bool true))])] x130 :=
  known_ofF tOk mixed fnsOk (B := []) trivial e143ok (n := 100000) (by kernel_rfl)
theorem k550 [Env] : Known Tryz.prog 143 [(.agg [x136, (i 0)]), (.agg [(.sl [[(i 0)]] false), nl, (.v (.bool false))])] x134 :=
  known_ofF tOk mixed fnsOk (B := []) trivial e143ok (n := 100000) (by kernel_rfl)
theorem k551 [Env] : Known Tryz.prog 143 [(.agg [x136, (i 0)]), (.agg [(.sl [[(i 0)]] false), (.sl [[(i 13)]] false), (.v (.bool true))])] x135 :=
  known_ofF tOk mixed fnsOk (B := []) trivial e143ok (n := 100000) (by kernel_rfl)
theorem k552 [Env] : Known Tryz.prog 60 [(.agg [x136, (i 0)]), (.agg [(.sl [[(i 0)]] true), (.sl [[(i 13)]] true), (.v (.bool false))])] (i 0) :=
  known_ofF tOk mixed fnsOk (B := [(95, [([(.agg [x136, (i 0)])], (i 0))]), (143, [([(.agg [x136, (i 0)]), (.agg [(.sl [[(i 0)]] false), (.sl [[(i 13)]] false), (.v (.bool false))])], x129), ([(.agg [x136, (i 0)]), (.agg [(.sl [[(i 0)]] false), nl, (.v (.bool true))])], x130), ([(.agg [x136, (i 0)]), (.agg [(.sl [[(i 0)]] false), nl, (.v (.bool false))])], x134), ([(.agg [x136, (i 0)]), (.agg [(.sl [[(i 0)]] false), (.sl [[(i 13)]] false), (.v (.bool true))])], x135)])]) ⟨⟨k547, trivial⟩, ⟨k548, k549, k550, k551, trivial⟩, trivial⟩ e60ok (n := 100000) (by kernel_rfl)
theorem k553 [Env] : Known Tryz.prog 28 [(.agg [x111, (i 0)]), (.agg [x110, (i 0)])] (.v (.bool true)) :=
  known_ofF tOk mixed fnsOk (B := [(95, [([(.agg [x111, (i 0)])], (i 0)), ([(.agg [x110, (i 0)])], (i 0))]), (60, [([(.agg [x136, (i 0)]), (.agg [(.sl [[(i 0)]] true), (.sl [[(i 13)]] true), (.v (.bool false))])], (i 0))])]) ⟨⟨k539, k538, trivial⟩, ⟨k552, trivial⟩, trivial⟩ e28ok (n := 100000) (by kernel_rfl)
theorem k554 [Env] : Known Tryz.prog 5 [(.agg [x110, (i 0)]), (.agg [x111, (i 0)])] (.v (.bool true)) :=
  known_ofF tOk mixed fnsOk (B := [(28, [([(.agg [x110, (i 0)]), (.agg [x111, (i 0)])], (.v (.bool true))), ([(.agg [x111, (i 0)]), (.agg [x110, (i 0)])], (.v (.bool true)))])]) ⟨⟨k546, k553, trivial⟩, trivial⟩ e5ok (n := 100000) (by kernel_rfl)
end Go.Ev
