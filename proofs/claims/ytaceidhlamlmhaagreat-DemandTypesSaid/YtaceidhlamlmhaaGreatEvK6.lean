/- Calls that are known, by running them. -/
import Derived.Test.YtaceidhlamlmhaaGreatEvVal
import Derived.Test.YtaceidhlamlmhaaGreatEvK5
set_option linter.all false
namespace Go.Ev
open Go.Proofs
theorem k543 [Env] : Known Tryz.prog 143 [(.agg [x113, (i 0)]), (.agg [(.sl [[(i 0)]] false), nl, (.v (.bool false))])] x134 :=
  known_ofF tOk mixed fnsOk (B := []) trivial e143ok (n := 100000) (by kernel_rfl)
theorem k544 [Env] : Known Tryz.prog 143 [(.agg [x113, (i 0)]), (.agg [(.sl [[(i 0)]] false), (.sl [[(i 13)]] false), (.v (.bool true))])] x135 :=
  known_ofF tOk mixed fnsOk (B := []) trivial e143ok (n := 100000) (by kernel_rfl)
theorem k545 [Env] : Known Tryz.prog 60 [(.agg [x113, (i 0)]), (.agg [(.sl [[(i 0)]] true), (.sl [[(i 13)]] true), (.v (.bool false))])] (i 0) :=
  known_ofF tOk mixed fnsOk (B := [(95, [([(.agg [x113, (i 0)])], (i 0))]), (143, [([(.agg [x113, (i 0)]), (.agg [(.sl [[(i 0)]] false), (.sl [[(i 13)]] false), (.v (.bool false))])], x129), ([(.agg [x113, (i 0)]), (.agg [(.sl [[(i 0)]] false), nl, (.v (.bool true))])], x130), ([(.agg [x113, (i 0)]), (.agg [(.sl [[(i 0)]] false), nl, (.v (.bool false))])], x134), ([(.agg [x113, (i 0)]), (.agg [(.sl [[(i 0)]] false), (.sl [[(i 13)]] false), (.v (.bool true))])], x135)])]) ⟨⟨k540, trivial⟩, ⟨k541, k542, k543, k544, trivial⟩, trivial⟩ e60ok (n := 100000) (by kernel_rfl)
theorem k546 [Env] : Known Tryz.prog 28 [(.agg [x110, (i 0)]), (.agg [x111, (i 0)])] (.v (.bool true)) :=
  known_ofF tOk mixed fnsOk (B := [(95, [([(.agg [x110, (i 0)])], (i 0)), ([(.agg [x111, (i 0)])], (i 0))]), (60, [([(.agg [x113, (i 0)]), (.agg [(.sl [[(i 0)]] true), (.sl [[(i 13)]] true), (.v (.bool false))])], (i 0))])]) ⟨⟨k538, k539, trivial⟩, ⟨k545, trivial⟩, trivial⟩ e28ok (n := 100000) (by kernel_rfl)
theorem k547 [Env] : Known Tryz.prog 95 [(.agg [x136, (i 0)])] (i 0) :=
  known_ofF tOk mixed fnsOk (B := []) trivial e95ok (n := 100000) (by kernel_rfl)
theorem k548 [Env] : Known Tryz.prog 143 [(.agg [x136, (i 0)]), (.agg [(.sl [[(i 0)]] false), (.sl [[(i 13)]] false), (.v (.bool false))])] x129 :=
  known_ofF tOk mixed fnsOk (B := []) trivial e143ok (n := 100000) (by kernel_rfl)
end Go.Ev
